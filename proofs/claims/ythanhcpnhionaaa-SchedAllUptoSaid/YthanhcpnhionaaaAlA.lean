/- Lemmas for the theorem of the last text: parts AmCore to AmDrawB of it. Conditions: those of each theorem. -/
import Derived.Test.YthanhcpnhionaaaRows
import Derived.Attr
import Derived.Carry
import Derived.ChangeSame
import Derived.ChangeSlices
import Derived.Deep.Slices
import Derived.Great.BuildSlice
import Derived.IntWalk
import Derived.JoinedCond
import Derived.KernelRfl
import Derived.Laws.CopyOwn
import Derived.Laws.Tables
import Derived.OpenShut
import Derived.Orders
import Derived.ProofKit
import Derived.Recover
import Derived.WalkKit
set_option linter.all false
set_option linter.unusedSimpArgs false
set_option linter.unusedVariables false
namespace Go.Am
inductive Tr (α : Type) where
  | nil
  | node (l : Tr α) (v : Option α) (r : Tr α)
namespace Tr
variable {α : Type}
def get : Tr α → Nat → Option α
  | .nil, _ => none
  | .node l v r, n => if n = 0 then v else if n % 2 = 1 then l.get (n / 2) else r.get (n / 2 - 1)
def putF : Nat → Tr α → Nat → Option α → Tr α
  | 0, t, _, _ => t
  | f + 1, .nil, n, x => if n = 0 then .node .nil x .nil else if n % 2 = 1 then .node (putF f .nil (n / 2) x) none .nil else .node .nil none (putF f .nil (n / 2 - 1) x)
  | f + 1, .node l v r, n, x => if n = 0 then .node l x r else if n % 2 = 1 then .node (putF f l (n / 2) x) v r else .node l v (putF f r (n / 2 - 1) x)
def put (t : Tr α) (n : Nat) (x : Option α) : Tr α := putF (n + 1) t n x
@[simp] theorem get_nil (n : Nat) : (Tr.nil : Tr α).get n = none := rfl
theorem get_node (l r : Tr α) (v : Option α) (n : Nat) : (Tr.node l v r).get n = if n = 0 then v else if n % 2 = 1 then l.get (n / 2) else r.get (n / 2 - 1) := rfl
theorem get_putF : ∀ (f : Nat) (t : Tr α) (n m : Nat) (x : Option α), n < f → (putF f t n x).get m = if m = n then x else t.get m := by
  intro f
  induction f with
  | zero => intro t n m x h; omega
  | succ f ih =>
    intro t n m x h
    cases t with
    | nil =>
      unfold putF
      by_cases h0 : n = 0
      · subst h0
        by_cases hm : m = 0 <;> simp [get_node, hm]
      · rw [if_neg h0]
        by_cases h1 : n % 2 = 1
        · rw [if_pos h1, get_node]
          by_cases hm : m = 0
          · subst hm
            rw [if_pos rfl, if_neg (by omega)]; rfl
          · rw [if_neg hm]
            by_cases hm1 : m % 2 = 1
            · rw [if_pos hm1, ih _ _ _ _ (by omega)]
              by_cases e : m = n
              · rw [if_pos e, if_pos (by omega)]
              · rw [if_neg e, if_neg (by omega)]; rfl
            · rw [if_neg hm1, if_neg (by intro e; subst e; exact hm1 h1)]; rfl
        · rw [if_neg h1, get_node]
          by_cases hm : m = 0
          · subst hm
            rw [if_pos rfl, if_neg (by omega)]; rfl
          · rw [if_neg hm]
            by_cases hm1 : m % 2 = 1
            · rw [if_pos hm1, if_neg (by intro e; subst e; exact h1 hm1)]; rfl
            · rw [if_neg hm1, ih _ _ _ _ (by omega)]
              by_cases e : m = n
              · rw [if_pos e, if_pos (by omega)]
              · rw [if_neg e, if_neg (by omega)]; rfl
    | node l v r =>
      unfold putF
      by_cases h0 : n = 0
      · subst h0
        by_cases hm : m = 0 <;> simp [get_node, hm]
      · rw [if_neg h0]
        by_cases h1 : n % 2 = 1
        · rw [if_pos h1, get_node, get_node]
          by_cases hm : m = 0
          · subst hm
            rw [if_pos rfl, if_neg (by omega), if_pos rfl]
          · rw [if_neg hm, if_neg hm]
            by_cases hm1 : m % 2 = 1
            · rw [if_pos hm1, if_pos hm1, ih _ _ _ _ (by omega)]
              by_cases e : m = n
              · rw [if_pos e, if_pos (by omega)]
              · rw [if_neg e, if_neg (by omega)]
            · rw [if_neg hm1, if_neg hm1, if_neg (by intro e; subst e; exact hm1 h1)]
        · rw [if_neg h1, get_node, get_node]
          by_cases hm : m = 0
          · subst hm
            rw [if_pos rfl, if_neg (by omega), if_pos rfl]
          · rw [if_neg hm, if_neg hm]
            by_cases hm1 : m % 2 = 1
            · rw [if_pos hm1, if_pos hm1, if_neg (by intro e; subst e; exact h1 hm1)]
            · rw [if_neg hm1, if_neg hm1, ih _ _ _ _ (by omega)]
              by_cases e : m = n
              · rw [if_pos e, if_pos (by omega)]
              · rw [if_neg e, if_neg (by omega)]
theorem get_put (t : Tr α) (n m : Nat) (x : Option α) : (t.put n x).get m = if m = n then x else t.get m := get_putF _ _ _ _ _ (Nat.lt_succ_self n)
@[simp] theorem get_put_self (t : Tr α) (n : Nat) (x : Option α) : (t.put n x).get n = x := by rw [get_put, if_pos rfl]
theorem get_put_ne (t : Tr α) {n m : Nat} (x : Option α) (h : m ≠ n) : (t.put n x).get m = t.get m := by rw [get_put, if_neg h]
end Tr
structure Blk where
  ty : TypeId
  es : Nat
  opn : Bool
  cells : List Value
def base0 : Nat := 4611686018427387904
def openCap : Nat := 18446744073709551616
structure Heap where
  old : Nat → Option Blk
  tr : Tr Blk
  next : Nat
namespace Heap
def get (H : Heap) (b : Nat) : Option Blk := if b < base0 then H.old b else H.tr.get (b - base0)
def put (H : Heap) (b : Nat) (x : Option Blk) : Heap := if b < base0 then H else { H with tr := H.tr.put (b - base0) x }
def set (H : Heap) (b : Nat) (x : Blk) : Heap := H.put b (some x)
def del (H : Heap) (b : Nat) : Heap := H.put b none
def alloc (H : Heap) (x : Blk) : Heap := { H.put H.next (some x) with next := H.next + 1 }
def loads (H : Heap) (a : Addr) (n : Nat) : Option (List Value) := do
  if a.spot.isSome then none
  let x ← H.get a.block
  if a.off + n ≤ x.cells.length then some ((x.cells.drop a.off).take n) else none
def load1 (H : Heap) (a : Addr) : Option Value := do
  if a.spot.isSome then none
  let x ← H.get a.block
  x.cells[a.off]?
def splice (cs : List Value) (off : Nat) (vs : List Value) : List Value := cs.take off ++ vs ++ cs.drop (off + vs.length)
def oneC : Value → Bool
  | .agg _ | .tuple _ => false
  | _ => true
def stores (H : Heap) (a : Addr) (vs : List Value) : Option Heap := do
  if a.spot.isSome || a.block < base0 || !vs.all oneC then none
  let x ← H.get a.block
  if a.off + vs.length ≤ x.cells.length then some (H.set a.block { x with cells := splice x.cells a.off vs }) else none
end Heap
def flatV : Value → Bool
  | .bool _ | .int _ _ | .float _ _ | .string _ | .pointer none | .slice none 0 0 | .map none | .nilFunc | .nilIface => true
  | _ => false
def plainV : Value → Bool
  | .agg cs => cs.all flatV
  | v => flatV v
structure St where
  n : Nat
  f : Tr Value
  d : List Deferred
  H : Heap
namespace St
def slot (s : St) (t : Nat) : Value := (s.f.get t).getD undef
def ev (s : St) : Operand → Option Value
  | .tmp t => some (s.slot t)
  | .const v => if plainV v then some v else none
  | .global _ => none
  | .func f => some (.func (.func f) #[] #[])
def put (s : St) (dst : Option Tmp) (v : Value) : St :=
  match dst with
  | some d => if d < s.n then { s with f := s.f.put d (some v) } else s
  | none => s
end St
inductive R where
  | val (v : Value)
  | call (f : FuncId) (args : Array Value)
  | dfr (d : Deferred)
  | pan (v : Value)
inductive CR where
  | ret (v : Value)
  | pan (v : Value)
inductive Ex where
  | normal
  | exit (id : Nat)
  | ret
  | panic (v : Value)
section ops
variable (P : Program)
def szA (t : TypeId) : Option Nat := (P.info? t).map (·.size)
def aggA (t : TypeId) : Option Bool := (P.underlying t).map fun d => match d with | .struct _ | .array _ _ => true | _ => false
def zeroA (t : TypeId) : Option Value := do
  let z ← (P.info? t).bind (·.zero)
  if plainV z then some z else none
def loadA (H : Heap) (t : TypeId) (v : Value) : Option Value := do
  match v with
  | .pointer (some a) =>
    if ← aggA P t then (H.loads a (← szA P t)).map fun l => .agg l.toArray else H.load1 a
  | _ => none
def storeA (H : Heap) (t : TypeId) (a v : Value) : Option Heap := do
  match a with
  | .pointer (some a) => if v.cells.size = (← szA P t) then H.stores a v.cells.toList else none
  | _ => none
def buildA (t : TypeId) (parts : List (Nat × Value)) : Option Value := do
  let zero := (← zeroA P t).cells
  match ← P.underlying t with
  | .struct fields =>
    let places ← fields.toList.mapM fun f => (szA P f.type).map fun n => (f.offset, n)
    (Instr.fill (places[·]?) zero parts).map .agg
  | .array _ elem =>
    let size ← szA P elem
    (Instr.fill (fun i => some (i * size, size)) zero parts).map .agg
  | _ => none
def manyA (zero : List Value) : Nat → List Value
  | 0 => []
  | n + 1 => zero ++ manyA zero n
def buildSliceA (t : TypeId) (len : Nat) (parts : List (Nat × Value)) : Option ((Nat → Value) × Blk) := do
  match ← P.underlying t with
  | .slice elem =>
    let size ← szA P elem
    if size = 0 || len * size > 2 ^ 24 then none else
    let zero := (← zeroA P elem).cells
    if zero.size ≠ size then none else
    let cells ← Instr.fill (fun i => some (i * size, size)) (manyA zero.toList len).toArray parts
    some (fun b => .slice (some ⟨b, 0, none⟩) len len, ⟨elem, 0, false, cells.toList⟩)
  | _ => none
def fieldAddrA (s : TypeId) (v : Value) (f : Nat) : Option Value := do
  match ← P.underlying s, v with
  | .struct fields, .pointer (some a) =>
    let f ← fields[f]?
    if (← szA P f.type) = 0 || a.spot.isSome then none else some (.pointer (some ⟨a.block, a.off + f.offset, none⟩))
  | _, _ => none
def partA (t : TypeId) (cs : Array Value) (off : Nat) : Option Value := do
  if ← aggA P t then some (.agg (cs.extract off (off + (← szA P t)))) else cs[off]?
def fieldA (t : TypeId) (v : Value) (f : Nat) : Option Value := do
  match ← P.underlying t, v with
  | .struct fields, .agg cs =>
    let f ← fields[f]?
    partA P f.type cs f.offset
  | _, _ => none
def indexAddrA (t : TypeId) (v ix : Value) : Option Value := do
  match ← P.underlying t, v, ix with
  | .array len elem, .pointer (some a), .int _ i =>
    if a.spot.isSome then none else
    if 0 ≤ i ∧ i < (len : Int) then some (.pointer (some ⟨a.block, a.off + i.toNat * (← szA P elem), none⟩)) else none
  | .slice elem, .slice (some a) len cap, .int _ i =>
    if a.spot.isSome || cap = 0 then none else
    if 0 ≤ i ∧ i < (len : Int) then some (.pointer (some ⟨a.block, a.off + i.toNat * (← szA P elem), none⟩)) else none
  | _, _, _ => none
def indexA (t : TypeId) (v ix : Value) : Option Value := do
  match ← P.underlying t, v, ix with
  | .array len elem, .agg cs, .int _ i => if 0 ≤ i ∧ i < (len : Int) then partA P elem cs (i.toNat * (← szA P elem)) else none
  | .string, .string s, .int _ i => if 0 ≤ i then (s[i.toNat]?).map fun b => .int .u8 b.toNat else none
  | _, _, _ => none
def boundA (x : Option Value) (d y : Nat) : Option Nat := match x with
  | none => some d
  | some (.int _ i) => if 0 ≤ i ∧ i ≤ (y : Int) then some i.toNat else none
  | _ => none
def sliceA (H : Heap) (t : TypeId) (v : Value) (low high max : Option Value) : Option Value := do
  match ← P.underlying t, v with
  | .string, .string s =>
    if max.isSome then none else
    let h ← boundA high s.size s.size
    let l ← boundA low 0 h
    some (.string (s.extract l h))
  | .slice elem, .slice a len cap =>
    let size ← szA P elem
    if cap = openCap then
      match a with
      | none => none
      | some a =>
        if a.spot.isSome || size = 0 then none else
        let x ← H.get a.block
        if x.es ≠ size then none else
        let most := (x.cells.length - a.off) / size
        match max with
        | none =>
          let h ← boundA high len most
          let l ← boundA low 0 h
          some (.slice (some ⟨a.block, a.off + l * size, none⟩) (h - l) openCap)
        | some _ =>
          if high.isNone then none else
          let m ← boundA max most most
          let h ← boundA high len m
          let l ← boundA low 0 h
          if m < openCap then some (.slice (some ⟨a.block, a.off + l * size, none⟩) (h - l) (m - l)) else none
    else
      if max.isSome && high.isNone then none else
      let m ← boundA max cap cap
      let h ← boundA high len m
      let l ← boundA low 0 h
      match a with
      | none => some (.slice none (h - l) (m - l))
      | some a => if a.spot.isSome then none else some (.slice (some ⟨a.block, a.off + l * size, none⟩) (h - l) (m - l))
  | .array n elem, .pointer (some a) =>
    if a.spot.isSome || n ≥ openCap then none else
    if max.isSome && high.isNone then none else
    let m ← boundA max n n
    let h ← boundA high n m
    let l ← boundA low 0 h
    some (.slice (some ⟨a.block, a.off + l * (← szA P elem), none⟩) (h - l) (m - l))
  | .pointer arr, .pointer (some a) =>
    match ← P.underlying arr with
    | .array n elem =>
      if a.spot.isSome || n ≥ openCap then none else
      if max.isSome && high.isNone then none else
      let m ← boundA max n n
      let h ← boundA high n m
      let l ← boundA low 0 h
      some (.slice (some ⟨a.block, a.off + l * (← szA P elem), none⟩) (h - l) (m - l))
    | _ => none
  | _, _ => none
def intOpA (op : BinOp) (k : IntKind) (x y : Int) : Option Value :=
  match op with
  | .add => some (.int k (k.wrap (x + y)))
  | .sub => some (.int k (k.wrap (x - y)))
  | .mul => some (.int k (k.wrap (x * y)))
  | .quo => if y = 0 then none else some (.int k (k.wrap (x.tdiv y)))
  | .rem => if y = 0 then none else some (.int k (x.tmod y))
  | .eql => some (.bool (x == y))
  | .neq => some (.bool (x != y))
  | .lss => some (.bool (x < y))
  | .leq => some (.bool (x ≤ y))
  | .gtr => some (.bool (x > y))
  | .geq => some (.bool (x ≥ y))
  | _ => none
def leafEqA : Option TypeDesc → Value → Value → Option Bool
  | some (.int _), .int k a, .int k' b => if k = k' then some (a == b) else none
  | some .bool, .bool a, .bool b => some (a == b)
  | some .string, .string a, .string b => some (a == b)
  | _, _, _ => none
def eqFieldsA : List Field → List Value → List Value → Option Bool
  | [], [], [] => some true
  | f :: fs, x :: xs, y :: ys =>
    match leafEqA (P.underlying f.type) x y with
    | some true => eqFieldsA fs xs ys
    | some false => some false
    | none => none
  | _, _, _ => none
def plainField (i : Nat) (f : Field) : Bool :=
  f.offset == i && f.name != "_"
def plainStruct (t : TypeId) : Bool :=
  !P.stoodInHeld t && !P.eqGuardType P.depth t &&
  match P.underlying t with
  | some (.struct fields) => fields.toList.zipIdx.all fun (f, i) => plainField i f
  | _ => false
def equalA (t : TypeId) (x y : Value) : Option Bool := do
  match ← P.underlying t, x, y with
  | .bool, .bool a, .bool b => some (a == b)
  | .string, .string a, .string b => some (a == b)
  | .pointer _, .pointer none, .pointer b => some b.isNone
  | .pointer _, .pointer (some _), .pointer none => some false
  | .interface _, .nilIface, .nilIface => some true
  | .interface _, .nilIface, .iface _ _ => some false
  | .interface _, .iface _ _, .nilIface => some false
  | .slice _, .slice none _ _, .slice b _ _ => some b.isNone
  | .slice _, .slice (some _) _ _, .slice none _ _ => some false
  | .func _ _ _, .nilFunc, .nilFunc => some true
  | .func _ _ _, .nilFunc, .func _ _ _ => some false
  | .func _ _ _, .func _ _ _, .nilFunc => some false
  | .struct fs, .agg xs, .agg ys => if plainStruct P t then eqFieldsA P fs.toList xs.toList ys.toList else none
  | _, _, _ => none
def isConstA : Operand → Bool
  | .const _ => true
  | _ => false
def eqGuardA (op : BinOp) (x y : Operand) (a b : Value) : Bool :=
  match op, a, b with
  | .eql, .nilIface, .nilIface | .neq, .nilIface, .nilIface => isConstA x || isConstA y
  | _, _, _ => true
def binA (op : BinOp) (t : TypeId) (a b : Value) : Option Value :=
  match op, a, b with
  | .shl, _, _ | .shr, _, _ => none
  | op, .int k x, .int k' y => if k = k' then intOpA op k x y else none
  | .eql, a, b => (equalA P t a b).map .bool
  | .neq, a, b => (equalA P t a b).map fun r => .bool !r
  | _, _, _ => none
def unA (op : UnOp) (x : Value) : Option Value :=
  match op, x with
  | .not, .bool b => some (.bool !b)
  | .neg, .int k n => some (.int k (k.wrap (0 - n)))
  | _, _ => none
def convertA (src dst : TypeId) (x : Value) : Option Value := do
  match ← P.underlying src, ← P.underlying dst, x with
  | .int _, .int k, .int _ n => some (.int k (k.wrap n))
  | _, _, _ => none
def makeInterfaceA (t : TypeId) (x : Value) : Option Value := do
  match ← P.underlying t with
  | .interface _ => none
  | _ => some (.iface t x)
def typeAssertA (x : Value) (asserted : TypeId) (commaOk : Bool) : Option Value := do
  match ← P.underlying asserted, x with
  | .interface _, _ => none
  | _, .nilIface => if commaOk then (zeroA P asserted).map fun z => .tuple #[z, .bool false] else none
  | _, .iface t v =>
    if t = asserted then some (if commaOk then .tuple #[v, .bool true] else v)
    else if commaOk then (zeroA P asserted).map fun z => .tuple #[z, .bool false] else none
  | _, _ => none
def extractA (x : Value) (i : Nat) : Option Value :=
  match x with
  | .tuple vs => vs[i]?
  | _ => none
def makeSliceA (t : TypeId) (l c : Value) : Option ((Nat → Value) × Blk) := do
  match ← P.underlying t, l, c with
  | .slice elem, .int .i64 l, .int .i64 c =>
    let i ← P.info? elem
    if 0 ≤ l ∧ l ≤ c ∧ c ≤ 2 ^ 47 ∧ c * i.bytes ≤ 2 ^ 47 ∧ i.size ≠ 0 then
      let zero := (← zeroA P elem).cells
      if zero.size ≠ i.size then none else
      some (fun b => .slice (some ⟨b, 0, none⟩) l.toNat c.toNat, ⟨elem, 0, false, manyA zero.toList c.toNat⟩)
    else none
  | _, _, _ => none
def lenA (t : TypeId) (x : Value) : Option Value := do
  match ← P.underlying t, x with
  | .string, .string s => some (goInt s.size)
  | .slice _, .slice _ n _ => some (goInt n)
  | .array n _, _ => some (goInt n)
  | _, _ => none
def firstA (H : Heap) (size n : Nat) : Value → Option (List Value)
  | .slice (some a) _ cap => if n = 0 then some [] else if cap = 0 then none else H.loads a (n * size)
  | .slice none _ _ => if n = 0 then some [] else none
  | .string s => if size = 1 then some ((s.extract 0 n).data.toList.map fun b => .int .u8 b.toNat) else none
  | _ => none
def lengthA : Value → Option Nat
  | .slice _ n _ => some n
  | .string s => some s.size
  | _ => none
def appendA (H : Heap) (sType xType : TypeId) (s x : Value) : Option (Value × Heap) := do
  match ← P.underlying sType, ← P.underlying xType, s with
  | _, .int _, _ => none
  | .slice elem, _, .slice base len cap =>
    let i ← P.info? elem
    let size := i.size
    let z ← zeroA P elem
    if size = 0 || z.cells.size ≠ size then none else
    let n ← lengthA x
    let need := len + n
    let news ← firstA H size n x
    if cap ≠ openCap then
      if need ≤ cap then
        match base with
        | none => if n = 0 then some (.slice none need cap, H) else none
        | some a => if n = 0 then some (.slice (some a) need cap, H) else (H.stores ⟨a.block, a.off + len * size, a.spot⟩ news).map fun H => (.slice (some a) need cap, H)
      else
        if 4 * need * i.bytes + 4096 > 2 ^ 47 || need > 2 ^ 47 then none else
        let olds ← firstA H size len s
        some (.slice (some ⟨H.next, 0, none⟩) need openCap, H.alloc ⟨elem, size, true, olds ++ news⟩)
    else
      match base with
      | none => none
      | some a =>
        if a.spot.isSome || a.block < base0 then none else
        let x ← H.get a.block
        if x.es ≠ size || !x.opn then none else
        if n = 0 then some (.slice (some a) need cap, H)
        else if a.off + need * size ≤ x.cells.length then (H.stores ⟨a.block, a.off + len * size, none⟩ news).map fun H => (.slice (some a) need cap, H)
        else if a.off + len * size ≠ x.cells.length || !news.all Heap.oneC then none
        else if 4 * need * i.bytes + 4096 > 2 ^ 47 || need > 2 ^ 47 then none
        else some (.slice (some ⟨H.next, 0, none⟩) need openCap, (H.del a.block).alloc ⟨elem, size, true, x.cells.drop a.off ++ news⟩)
  | _, _, _ => none
def copyA (H : Heap) (dType : TypeId) (d x : Value) : Option (Value × Heap) := do
  match ← P.underlying dType, d with
  | .slice elem, .slice base len cap =>
    let size ← szA P elem
    let n := Nat.min (← lengthA x) len
    if size = 0 then none else
    let news ← firstA H size n x
    match base with
    | none => some (goInt n, H)
    | some a => if n = 0 then some (goInt n, H) else if cap = 0 then none else (H.stores a news).map fun H => (goInt n, H)
  | _, _ => none
def min2A (a b : Value) : Option Value :=
  match a, b with
  | .int k x, .int _ y => some (.int k (if y < x then y else x))
  | _, _ => none
def max2A (a b : Value) : Option Value :=
  match a, b with
  | .int k x, .int _ y => some (.int k (if y > x then y else x))
  | _, _ => none
def builtinA (b : Builtin) (ts : Array TypeId) (args : List Value) (H : Heap) : Option (Value × Heap) := do
  match b, args with
  | .len, [x] => (lenA P (← ts[0]?) x).map (·, H)
  | .append, [s, x] => appendA P H (← ts[0]?) (← ts[1]?) s x
  | .copy, [d, x] => copyA P H (← ts[0]?) d x
  | .min, [x, y] => (min2A x y).map (·, H)
  | .max, [x, y] => (max2A x y).map (·, H)
  | _, _ => none
def targetA (f : Value) (args : List Value) : Option (FuncId × Array Value) :=
  match f with
  | .func (.func f) first captured => some (f, first ++ args.toArray ++ captured)
  | _ => none
def allocA (o : Op) (ev : Operand → Option Value) : Option ((Nat → Value) × Blk) := do
  match o with
  | .alloc t => let z ← zeroA P t; some (fun b => .pointer (some ⟨b, 0, none⟩), ⟨t, 0, false, z.cells.toList⟩)
  | .box t x => let v ← ev x; some (fun b => .pointer (some ⟨b, 0, none⟩), ⟨t, 0, false, v.cells.toList⟩)
  | .buildSlice t n parts => buildSliceA P t n (← parts.toList.mapM fun (i, x) => (ev x).map (i, ·))
  | .makeSlice t l c => makeSliceA P t (← ev l) (← ev c)
  | _ => none
def isAlloc : Op → Bool
  | .alloc _ | .box _ _ | .buildSlice _ _ _ | .makeSlice _ _ _ => true
  | _ => false
def opA (o : Oper) (ev : Operand → Option Value) (H : Heap) : Option (R × Heap) :=
  if isAlloc o.op then do let r ← allocA P o.op ev; some (.val (r.1 H.next), H.alloc r.2) else do
  match o.op with
  | .move x | .assign x => some (.val (← ev x), H)
  | .pick c a b =>
    match ← ev c with
    | .bool c => if c then some (.val (← ev a), H) else some (.val (← ev b), H)
    | _ => none
  | .build t parts => some (.val (← buildA P t (← parts.toList.mapM fun (i, x) => (ev x).map (i, ·))), H)
  | .load t a => some (.val (← loadA P H t (← ev a)), H)
  | .store t a x => some (.val undef, ← storeA P H t (← ev a) (← ev x))
  | .nilCheck x =>
    match ← ev x with
    | .pointer (some a) => some (.val (.pointer (some a)), H)
    | .func (.func f) first captured => some (.val (.func (.func f) first captured), H)
    | .iface t v => some (.val (.iface t v), H)
    | _ => none
  | .binOp op t x y _ =>
    let a ← ev x
    let b ← ev y
    if eqGuardA op x y a b then some (.val (← binA P op t a b), H) else none
  | .unOp op _ x => some (.val (← unA op (← ev x)), H)
  | .convert s t x => some (.val (← convertA P s t (← ev x)), H)
  | .makeInterface t x => some (.val (← makeInterfaceA P t (← ev x)), H)
  | .makeFunc fn first captured => some (.val (.func fn (← first.toList.mapM ev).toArray (← captured.toList.mapM ev).toArray), H)
  | .slice t x lo hi mx => some (.val (← sliceA P H t (← ev x) (← lo.mapM ev) (← hi.mapM ev) (← mx.mapM ev)), H)
  | .fieldAddr s x f => some (.val (← fieldAddrA P s (← ev x) f), H)
  | .field t x f => some (.val (← fieldA P t (← ev x) f), H)
  | .indexAddr t x ix => some (.val (← indexAddrA P t (← ev x) (← ev ix)), H)
  | .index t x ix => some (.val (← indexA P t (← ev x) (← ev ix)), H)
  | .typeAssert x _ asserted ok => some (.val (← typeAssertA P (← ev x) asserted ok), H)
  | .extract t i => some (.val (← extractA (← ev t) i), H)
  | .call c =>
    match c.callee with
    | .builtin b => let r ← builtinA P b c.argTypes (← c.args.toList.mapM ev) H; some (.val r.1, r.2)
    | .value f => let r ← targetA (← ev f) (← c.args.toList.mapM ev); some (.call r.1 r.2, H)
    | .invoke _ _ => none
  | .defer c =>
    match c.callee with
    | .value f =>
      match ← ev f with
      | .func (.func f) first captured => some (.dfr { target := .fn (.func f) captured, args := first ++ (← c.args.toList.mapM ev).toArray }, H)
      | _ => none
    | _ => none
  | .panic x =>
    match ← ev x with
    | .iface t v => some (.pan (.iface t v), H)
    | _ => none
  | _ => none
end ops
end Go.Am
namespace Go.Am
section
variable (P : Program)
mutual
def veq : Value → Value → Bool
  | .bool a, .bool b => a == b
  | .int k a, .int k' b => k == k' && a == b
  | .float k a, .float k' b => k == k' && a == b
  | .string a, .string b => a == b
  | .pointer a, .pointer b => a == b
  | .slice a l c, .slice a' l' c' => a == a' && l == l' && c == c'
  | .map a, .map b => a == b
  | .complex k a b, .complex k' a' b' => k == k' && a == a' && b == b'
  | .chan a, .chan b => a == b
  | .nilFunc, .nilFunc => true
  | .nilIface, .nilIface => true
  | .func f x y, .func f' x' y' => f == f' && veqA x x' && veqA y y'
  | .iface t v, .iface t' v' => t == t' && veq v v'
  | .agg x, .agg y => veqA x y
  | .tuple x, .tuple y => veqA x y
  | _, _ => false
def veqA : Array Value → Array Value → Bool
  | ⟨x⟩, ⟨y⟩ => veqL x y
def veqL : List Value → List Value → Bool
  | [], [] => true
  | x :: xs, y :: ys => veq x y && veqL xs ys
  | _, _ => false
end
def yieldedA (ops : Array Oper) (s : St) (j : Nat) : Option Bool :=
  match (ops[j]?).bind (·.dst) with
  | some t => match s.f.get t with
    | some (.bool b) => some b
    | _ => none
  | none => none
def wantedA (o : Oper) (ops : Array Oper) (s : St) : Bool :=
  match o.guard with
  | none => true
  | some (j, want) => yieldedA ops s j == some want
abbrev Cl := FuncId → Array Value → Heap → Option (CR × Heap)
def doOp (cl : Cl) (o : Oper) (s : St) : Option (Ex × St) := do
  match ← opA P o s.ev s.H with
  | (.val v, H) => some (.normal, ({ s with H := H }).put o.dst v)
  | (.dfr d, H) => some (.normal, ({ s with H := H, d := d :: s.d }).put o.dst undef)
  | (.pan v, H) => some (.panic v, { s with H := H })
  | (.call f args, H) =>
    match ← cl f args H with
    | (.ret v, H) => some (.normal, ({ s with H := H }).put o.dst v)
    | (.pan v, H) => some (.panic v, { s with H := H })
def runOps (cl : Cl) (ops : Array Oper) : List Oper → St → Option (Ex × St)
  | [], s => some (.normal, s)
  | o :: rest, s =>
    if wantedA o ops s then
      match doOp P cl o s with
      | some (.normal, s') => runOps cl ops rest s'
      | r => r
    else runOps cl ops rest (s.put o.dst undef)
inductive Kd where
  | quiet | read | alloc | chain
  deriving DecidableEq
def kdA (o : Oper) : Kd :=
  match o.op with
  | .alloc _ | .box _ _ | .buildSlice _ _ _ | .makeSlice _ _ _ => .alloc
  | .load _ _ | .slice _ _ _ _ _ => .read
  | .move _ | .assign _ | .pick _ _ _ | .build _ _ | .nilCheck _ | .binOp _ _ _ _ _ | .unOp _ _ _ | .convert _ _ _ | .makeInterface _ _ | .makeFunc _ _ _
  | .fieldAddr _ _ _ | .field _ _ _ | .indexAddr _ _ _ | .index _ _ _ | .typeAssert _ _ _ _ | .extract _ _ => .quiet
  | .call { callee := .builtin .len, .. } | .call { callee := .builtin .min, .. } | .call { callee := .builtin .max, .. } => .quiet
  | _ => .chain
def ancA (b : Array Nat) (i k : Nat) : Bool := (b.getD i 0).testBit k
def okD (ops : Array Oper) : Bool :=
  let b := Region.before ops
  (List.range ops.size).all fun i =>
    match ops[i]? with
    | none => false
    | some o =>
      (match o.op with | .select _ _ => false | _ => true) &&
      (o.after.toList.all fun e => !Region.binds .any e || e.on < i) &&
      ((List.range ops.size).all fun k => !ancA b i k || o.after.toList.any fun e => Region.binds .any e && (e.on == k || ancA b e.on k)) &&
      ((List.range i).all fun k => ancA b i k || match ops[k]? with | some ok => ok.apart ops o | none => false)
structure DS where
  s : St
  /- blocks made that no operation of the chain has wanted yet: the operation's number, the block -/
  A : List (Nat × Blk)
  /- the heaps ahead of the chain's operations, the last first -/
  hist : List Heap
  /- the chain's operations that were done, the last first -/
  cs : List Nat
  /- the readings that were done: the number, the operation, the slots then, what was read -/
  rd : List (Nat × Oper × St × Value)
def layA (r0 : Nat) (H : Heap) : List (Nat × Blk) → Heap
  | [] => H
  | (i, x) :: rest => layA r0 (H.set (r0 + i) x) rest
def readsA (r0 : Nat) (b : Array Nat) (A : List (Nat × Blk)) (i : Nat) (o : Oper) (s : St) (H : Heap) : Option Value :=
  match opA P o s.ev (layA r0 H (A.filter fun p => ancA b i p.1)) with
  | some (.val v, _) => some v
  | _ => none
def backA (r0 : Nat) (b : Array Nat) (A : List (Nat × Blk)) (i : Nat) (o : Oper) (s : St) (v : Value) : List Nat → List Heap → Bool
  | c :: cs, H :: hs =>
    if ancA b i c then true
    else (match readsA P r0 b A i o s H with | some u => veq u v | none => false) && backA r0 b A i o s v cs hs
  | _, _ => true
def stepD (cl : Cl) (ops : Array Oper) (b : Array Nat) (r0 i : Nat) (o : Oper) (x : DS) : Option DS :=
  if wantedA o ops x.s then
    match kdA o with
    | .quiet => do
      match ← opA P o x.s.ev x.s.H with
      | (.val v, _) => some { x with s := x.s.put o.dst v }
      | _ => none
    | .alloc => do
      let r ← allocA P o.op x.s.ev
      some { x with s := x.s.put o.dst (r.1 (r0 + i)), A := x.A ++ [(i, r.2)] }
    | .read => do
      let v ← readsA P r0 b x.A i o x.s x.s.H
      if backA P r0 b x.A i o x.s v x.cs x.hist then
        some { x with s := x.s.put o.dst v, rd := (i, o, x.s, v) :: x.rd }
      else none
    | .chain =>
      if x.cs.all (ancA b i) then do
        let H0 := layA r0 x.s.H (x.A.filter fun p => ancA b i p.1)
        let A' := x.A.filter fun p => !ancA b i p.1
        match ← doOp P cl o { x.s with H := H0 } with
        | (.normal, s') =>
          if x.rd.all fun (k, ok, sk, v) => ancA b i k || (match readsA P r0 b A' k ok sk s'.H with | some u => veq u v | none => false) then
            some { s := s', A := A', hist := x.s.H :: x.hist, cs := i :: x.cs, rd := x.rd }
          else none
        | _ => none
      else none
  else some { x with s := x.s.put o.dst undef }
def runD (cl : Cl) (ops : Array Oper) (b : Array Nat) (r0 : Nat) : Nat → List Oper → DS → Option DS
  | _, [], x => some x
  | i, o :: rest, x => (stepD P cl ops b r0 i o x).bind (runD cl ops b r0 (i + 1) rest)
def calmD (ops : Array Oper) : Bool := ops.toList.all fun o => kdA o == .quiet || kdA o == .read
def regionD (cl : Cl) (ops : Array Oper) (s : St) : Option (Ex × St) :=
  if okD ops then do
    let r0 := s.H.next
    let x ← runD P cl ops (Region.before ops) r0 0 ops.toList { s := { s with H := { s.H with next := r0 + ops.size + 1 } }, A := [], hist := [], cs := [], rd := [] }
    if calmD ops then some (.normal, { x.s with H := s.H }) else some (.normal, { x.s with H := layA r0 x.s.H x.A })
  else none
def stepC (cl : Cl) (ex : Code → St → Option (Ex × St)) (c : Code) (s : St) : Option (Ex × St) :=
  match c with
  | .skip => some (.normal, s)
  | .region _ ops draw => if draw then regionD P cl ops s else runOps P cl ops ops.toList s
  | .seq a b =>
    match ex a s with
    | some (.normal, s') => ex b s'
    | r => r
  | .cond c a b =>
    match s.ev c with
    | some (.bool t) => ex (if t then a else b) s
    | _ => none
  | .block id b =>
    match ex b s with
    | some (.exit id', s') => if id' = id then some (.normal, s') else some (.exit id', s')
    | r => r
  | .loop b =>
    match ex b s with
    | some (.normal, s') => ex (.loop b) s'
    | r => r
  | .exit id => some (.exit id, s)
  | .ret => some (.ret, s)
  | _ => none
def isRec (o : Oper) : Bool := match o.op with | .call { callee := .builtin .recover, .. } => true | _ => false
def runOpsS (cl : Cl) (ops : Array Oper) : List Oper → Option Value → St → Option (Ex × Option Value × St)
  | [], p, s => some (.normal, p, s)
  | o :: rest, p, s =>
    if wantedA o ops s then
      if isRec o then
        match p with
        | some v => runOpsS cl ops rest none (s.put o.dst v)
        | none => runOpsS cl ops rest none (s.put o.dst .nilIface)
      else
        match doOp P cl o s with
        | some (.normal, s') => runOpsS cl ops rest p s'
        | some (e, s') => some (e, p, s')
        | none => none
    else runOpsS cl ops rest p (s.put o.dst undef)
def codeS (cl : Cl) (ex : Code → St → Option (Ex × St)) : Code → Option Value → St → Option (Ex × Option Value × St)
  | .seq a b, p, s =>
    match codeS cl ex a p s with
    | some (.normal, p', s') => codeS cl ex b p' s'
    | r => r
  | .cond c a b, p, s =>
    match s.ev c with
    | some (.bool t) => if t then codeS cl ex a p s else codeS cl ex b p s
    | _ => none
  | .region i ops draw, p, s => if draw || !ops.any isRec then (ex (.region i ops draw) s).map fun (e, s) => (e, p, s) else runOpsS P cl ops ops.toList p s
  | c, p, s => (ex c s).map fun (e, s) => (e, p, s)
def ofArgs : Nat → List Value → Tr Value
  | _, [] => .nil
  | i, v :: vs => (ofArgs (i + 1) vs).put i (some v)
def enterA (fn : Func) (args : Array Value) (H : Heap) : St := { n := Nat.max fn.ntmps args.size, f := ofArgs 0 args.toList, d := [], H := H }
def resultA (s : St) : ResultVar → Option Value
  | .tmp t => some (s.slot t)
  | .cell a t => loadA P s.H t (s.slot a)
def resultsA (fn : Func) (s : St) : Option Value := do
  match ← fn.results.toList.mapM (resultA P s) with
  | [v] => some v
  | vs => some (.tuple vs.toArray)
def unwindA (cl : Cl) (ex : Code → St → Option (Ex × St)) (fn : Func) (s : St) : List Deferred → Option Value → Heap → Option (CR × Heap)
  | [], none, H => (resultsA P fn { s with H := H }).map fun v => (.ret v, H)
  | [], some v, H => some (.pan v, H)
  | d :: ds, p, H => do
    match d.target with
    | .fn (.func g) captured =>
      let gn ← P.funcs[g]?
      let c ← gn.body
      match ← codeS P cl ex c p (enterA gn (d.args ++ captured) H) with
      | (.normal, p', s') | (.ret, p', s') =>
        if s'.d.isEmpty then
          let _ ← resultsA P gn s'
          unwindA cl ex fn s ds p' s'.H
        else none
      | _ => none
    | _ => none
def callA (cl : Cl) (ex : Code → St → Option (Ex × St)) (f : FuncId) (args : Array Value) (H : Heap) : Option (CR × Heap) := do
  let fn ← P.funcs[f]?
  let c ← fn.body
  match ← ex c (enterA fn args H) with
  | (.normal, s) | (.ret, s) => unwindA P cl ex fn s s.d none s.H
  | (.panic v, s) => if fn.results.isEmpty || s.d.isEmpty then unwindA P cl ex fn s s.d (some v) s.H else none
  | _ => none
def lvl : Nat → (Code → St → Option (Ex × St)) × Cl
  | 0 => (fun _ _ => none, fun _ _ _ => none)
  | k + 1 => (stepC P (lvl k).2 (lvl k).1, callA P (lvl k).2 (lvl k).1)
def exec (k : Nat) : Code → St → Option (Ex × St) := (lvl P k).1
def call (k : Nat) : Cl := (lvl P k).2
end
end Go.Am
namespace Go.Am
open Go.RowKit
structure Tgt where
  b : Nat
  p : Nat
  n : Nat
  m : Nat
  es : Nat
  opn : Bool
inductive Stat where
  | un
  | dead
  | live (T : Tgt)
abbrev Ren := Nat → Stat
def Le (β β' : Ren) : Prop := ∀ i, β i = .un ∨ β' i = .dead ∨ β' i = β i
theorem Le.refl (β : Ren) : Le β β := fun _ => .inr (.inr rfl)
theorem Le.ne_un {β β' : Ren} (h : Le β β') {i : Nat} (hi : β i ≠ .un) : β' i ≠ .un := by
  rcases h i with h | h | h
  · exact absurd h hi
  · rw [h]; intro e; cases e
  · rw [h]; exact hi
theorem Le.trans {a b c : Ren} (h : Le a b) (k : Le b c) : Le a c := by
  intro i
  rcases h i with h1 | h1 | h1
  · exact .inl h1
  · rcases k i with k1 | k1 | k1
    · rw [h1] at k1; cases k1
    · exact .inr (.inl k1)
    · exact .inr (.inl (k1.trans h1))
  · rcases k i with k1 | k1 | k1
    · exact .inl (h1 ▸ k1)
    · exact .inr (.inl k1)
    · exact .inr (.inr (k1.trans h1))
theorem Le.live {β β' : Ren} (h : Le β β') {i : Nat} {T : Tgt} (hi : β i ≠ .un) (hT : β' i = .live T) : β i = .live T := by
  rcases h i with h | h | h
  · exact absurd h hi
  · rw [h] at hT; cases hT
  · rw [← h]; exact hT
def upd (β : Ren) (i : Nat) (s : Stat) : Ren := fun j => if j = i then s else β j
@[simp] theorem upd_self (β : Ren) (i : Nat) (s : Stat) : upd β i s i = s := by simp [upd]
theorem upd_ne (β : Ren) {i j : Nat} (s : Stat) (h : j ≠ i) : upd β i s j = β j := by simp [upd, h]
theorem Le.upd {β : Ren} {i : Nat} {s : Stat} (h : β i = .un) : Le β (upd β i s) := by
  intro j
  by_cases e : j = i
  · subst e; exact .inl h
  · exact .inr (.inr (upd_ne _ _ e))
theorem Le.kill (β : Ren) (i : Nat) : Le β (Am.upd β i .dead) := by
  intro j
  by_cases e : j = i
  · subst e; exact .inr (.inl (upd_self _ _ _))
  · exact .inr (.inr (upd_ne _ _ e))
def AR (β : Ren) (a a' : Addr) : Prop := a.spot = none ∧ β a.block ≠ .un ∧ ∀ T, β a.block = .live T → a' = ⟨T.b, T.p + a.off, none⟩
theorem AR.mono {β β' : Ren} {a a' : Addr} (h : AR β a a') (k : Le β β') : AR β' a a' :=
  ⟨h.1, k.ne_un h.2.1, fun T hT => h.2.2 T (k.live h.2.1 hT)⟩
inductive VR (β : Ren) : Value → Value → Prop
  | bool (b : Bool) : VR β (.bool b) (.bool b)
  | int (k : IntKind) (n : Int) : VR β (.int k n) (.int k n)
  | float (k : FloatKind) (n : Nat) : VR β (.float k n) (.float k n)
  | string (s : ByteArray) : VR β (.string s) (.string s)
  | nilp : VR β (.pointer none) (.pointer none)
  | ptr {a a' : Addr} (h : AR β a a') : VR β (.pointer (some a)) (.pointer (some a'))
  | nils (l c : Nat) (hc : c < openCap) : VR β (.slice none l c) (.slice none l c)
  | sl {a a' : Addr} (l c : Nat) (hc : c < openCap) (hl : l ≤ c) (h : c = 0 ∨ AR β a a') : VR β (.slice (some a) l c) (.slice (some a') l c)
  | op {a a' : Addr} (l c : Nat) (hl : l ≤ c) (hs : a.spot = none) (hu : β a.block ≠ .un)
      (h : ∀ T, β a.block = .live T → T.opn = true ∧ T.p + a.off + c * T.es = T.m ∧ (c = 0 ∨ a' = ⟨T.b, T.p + a.off, none⟩)) :
      VR β (.slice (some a) l openCap) (.slice (some a') l c)
  | nilm : VR β (.map none) (.map none)
  | nilf : VR β .nilFunc .nilFunc
  | nili : VR β .nilIface .nilIface
  | iface (t : TypeId) {v v' : Value} (h : VR β v v') : VR β (.iface t v) (.iface t v')
  | func (f : Fn) {x x' y y' : Array Value} (hx : x.size = x'.size) (hy : y.size = y'.size)
      (kx : ∀ (i : Nat) (u u' : Value), x[i]? = some u → x'[i]? = some u' → VR β u u')
      (ky : ∀ (i : Nat) (u u' : Value), y[i]? = some u → y'[i]? = some u' → VR β u u') : VR β (.func f x y) (.func f x' y')
  | agg {x x' : Array Value} (hx : x.size = x'.size)
      (kx : ∀ (i : Nat) (u u' : Value), x[i]? = some u → x'[i]? = some u' → VR β u u') : VR β (.agg x) (.agg x')
  | tuple {x x' : Array Value} (hx : x.size = x'.size)
      (kx : ∀ (i : Nat) (u u' : Value), x[i]? = some u → x'[i]? = some u' → VR β u u') : VR β (.tuple x) (.tuple x')
theorem VR.mono {β β' : Ren} {v v' : Value} (h : VR β v v') (k : Le β β') : VR β' v v' := by
  induction h with
  | bool b => exact .bool b
  | int k n => exact .int k n
  | float k n => exact .float k n
  | string s => exact .string s
  | nilp => exact .nilp
  | ptr h => exact .ptr (h.mono k)
  | nils l c hc => exact .nils l c hc
  | sl l c hc hl h => exact .sl l c hc hl (h.imp id (·.mono k))
  | op l c hl hs hu h => exact .op l c hl hs (k.ne_un hu) fun T hT => h T (k.live hu hT)
  | nilm => exact .nilm
  | nilf => exact .nilf
  | nili => exact .nili
  | iface t _ ih => exact .iface t ih
  | func f hx hy _ _ ihx ihy => exact .func f hx hy ihx ihy
  | agg hx _ ih => exact .agg hx ih
  | tuple hx _ ih => exact .tuple hx ih
def LR (β : Ren) (xs ys : List Value) : Prop := xs.length = ys.length ∧ ∀ (i : Nat) (u u' : Value), xs[i]? = some u → ys[i]? = some u' → VR β u u'
theorem LR.mono {β β' : Ren} {xs ys : List Value} (h : LR β xs ys) (k : Le β β') : LR β' xs ys := ⟨h.1, fun i u u' hu hu' => (h.2 i u u' hu hu').mono k⟩
theorem LR.nil (β : Ren) : LR β [] [] := ⟨rfl, fun i u u' h => by simp at h⟩
theorem LR.cons {β : Ren} {x y : Value} {xs ys : List Value} (h : VR β x y) (hs : LR β xs ys) : LR β (x :: xs) (y :: ys) := by
  refine ⟨by simp [hs.1], fun i u u' hu hu' => ?_⟩
  cases i with
  | zero => simp at hu hu'; subst hu; subst hu'; exact h
  | succ i => exact hs.2 i u u' (by simpa using hu) (by simpa using hu')
theorem LR.head {β : Ren} {x y : Value} {xs ys : List Value} (h : LR β (x :: xs) (y :: ys)) : VR β x y ∧ LR β xs ys :=
  ⟨h.2 0 x y (by simp) (by simp), by have := h.1; simpa using this, fun i u u' hu hu' => h.2 (i + 1) u u' (by simpa using hu) (by simpa using hu')⟩
theorem LR.get {β : Ren} {xs ys : List Value} (h : LR β xs ys) {i : Nat} {u : Value} (hu : xs[i]? = some u) : ∃ u', ys[i]? = some u' ∧ VR β u u' := by
  have hi : i < xs.length := by
    rcases Nat.lt_or_ge i xs.length with k | k
    · exact k
    · simp [List.getElem?_eq_none k] at hu
  have hi' : i < ys.length := h.1 ▸ hi
  have hy : ys[i]? = some (ys[i]'hi') := List.getElem?_eq_getElem hi'
  exact ⟨_, hy, h.2 i u _ hu hy⟩
theorem LR.append {β : Ren} {a b c d : List Value} (h : LR β a b) (k : LR β c d) : LR β (a ++ c) (b ++ d) := by
  refine ⟨by simp [h.1, k.1], fun i u u' hu hu' => ?_⟩
  by_cases hi : i < a.length
  · rw [List.getElem?_append_left hi] at hu
    rw [List.getElem?_append_left (h.1 ▸ hi)] at hu'
    exact h.2 i u u' hu hu'
  · rw [List.getElem?_append_right (by omega)] at hu
    rw [List.getElem?_append_right (by have := h.1; omega)] at hu'
    exact k.2 (i - a.length) u u' hu (by rw [h.1]; exact hu')
theorem LR.drop {β : Ren} {a b : List Value} (h : LR β a b) (n : Nat) : LR β (a.drop n) (b.drop n) :=
  ⟨by simp [h.1], fun i u u' hu hu' => h.2 (n + i) u u' (by simpa [List.getElem?_drop] using hu) (by simpa [List.getElem?_drop] using hu')⟩
theorem LR.take {β : Ren} {a b : List Value} (h : LR β a b) (n : Nat) : LR β (a.take n) (b.take n) := by
  refine ⟨by simp [h.1], fun i u u' hu hu' => ?_⟩
  rw [List.getElem?_take] at hu hu'
  split at hu
  · rename_i hi; rw [if_pos hi] at hu'; exact h.2 i u u' hu hu'
  · cases hu
theorem VR.aggL {β : Ren} {x x' : Array Value} (h : LR β x.toList x'.toList) : VR β (.agg x) (.agg x') :=
  .agg (by simpa using h.1) fun i u u' hu hu' => h.2 i u u' (by simpa using hu) (by simpa using hu')
theorem VR.tupleL {β : Ren} {x x' : Array Value} (h : LR β x.toList x'.toList) : VR β (.tuple x) (.tuple x') :=
  .tuple (by simpa using h.1) fun i u u' hu hu' => h.2 i u u' (by simpa using hu) (by simpa using hu')
theorem LR.ofA {β : Ren} {x x' : Array Value} (hx : x.size = x'.size) (kx : ∀ (i : Nat) (u u' : Value), x[i]? = some u → x'[i]? = some u' → VR β u u') : LR β x.toList x'.toList :=
  ⟨by simpa using hx, fun i u u' hu hu' => kx i u u' (by simpa using hu) (by simpa using hu')⟩
theorem VR.cells {β : Ren} {v v' : Value} (h : VR β v v') : LR β v.cells.toList v'.cells.toList := by
  cases h with
  | agg hx kx => exact LR.ofA hx kx
  | bool b => exact .cons (.bool b) (.nil β)
  | int k n => exact .cons (.int k n) (.nil β)
  | float k n => exact .cons (.float k n) (.nil β)
  | string s => exact .cons (.string s) (.nil β)
  | nilp => exact .cons .nilp (.nil β)
  | ptr h => exact .cons (.ptr h) (.nil β)
  | nils l c hc => exact .cons (.nils l c hc) (.nil β)
  | sl l c hc hl h => exact .cons (.sl l c hc hl h) (.nil β)
  | op l c hl hs hu h => exact .cons (.op l c hl hs hu h) (.nil β)
  | nilm => exact .cons .nilm (.nil β)
  | nilf => exact .cons .nilf (.nil β)
  | nili => exact .cons .nili (.nil β)
  | iface t h => exact .cons (.iface t h) (.nil β)
  | func f hx hy kx ky => exact .cons (.func f hx hy kx ky) (.nil β)
  | tuple hx kx => exact .cons (.tuple hx kx) (.nil β)
theorem VR.oneC {β : Ren} {v v' : Value} (h : VR β v v') (hv : Heap.oneC v = true) : v'.oneCell' = true := by
  cases h <;> first | rfl | (simp [Heap.oneC] at hv)
theorem VR.flat {β : Ren} {v : Value} (h : flatV v = true) : VR β v v := by
  unfold flatV at h
  split at h <;> first | (constructor; done) | exact .nils 0 0 (by decide) | (cases h)
theorem VR.plain {β : Ren} {v : Value} (h : plainV v = true) : VR β v v := by
  cases v with
  | agg cs =>
    have h' : cs.all flatV = true := h
    refine .agg rfl fun i u u' hu hu' => ?_
    rw [hu] at hu'
    cases hu'
    rw [Array.all_eq_true'] at h'
    exact .flat (h' u (Array.mem_of_getElem? hu))
  | _ => exact .flat h
structure BR (β : Ren) (x : Blk) (T : Tgt) (w : World) (rw : Prop) : Prop where
  n : T.n = x.cells.length
  es : T.es = x.es
  opn : T.opn = x.opn
  le : T.p + T.n ≤ T.m
  obj : ∃ C ty fz, w.heap[T.b]? = some (.cells C ty fz) ∧ C.size = T.m ∧ (rw → fz = (0, 0)) ∧ LR β x.cells ((C.toList.drop T.p).take T.n)
abbrev XF := Nat → Option (Option Blk)
def getX (H : Heap) (X : XF) (i : Nat) : Option Blk := (H.get i).or (X i).join
structure HR (β : Ren) (H : Heap) (X : XF) (base : Nat) (w : World) : Prop where
  next : base0 ≤ H.next
  fresh : ∀ i, H.next ≤ i → β i = .un
  disj : ∀ i x, X i = some x → H.get i = none
  xlt : ∀ i x, X i = some x → i < H.next
  res : ∀ i, X i = some none → β i = .un
  blk : ∀ i x, getX H X i = some x → ∃ T, β i = .live T ∧ BR β x T w (base0 ≤ i) ∧ (if base0 ≤ i then base ≤ T.b else T.b < base)
  live : ∀ i T, β i = .live T → ∃ x, getX H X i = some x
  inj : ∀ i j T U, base0 ≤ i → base0 ≤ j → β i = .live T → β j = .live U → T.b = U.b → i = j
  sz : base ≤ w.heap.size
theorem BR.mono {β β' : Ren} {x : Blk} {T : Tgt} {w : World} {rw : Prop} (h : BR β x T w rw) (k : Le β β') : BR β' x T w rw :=
  ⟨h.n, h.es, h.opn, h.le, by obtain ⟨C, ty, fz, h1, h2, h3, h4⟩ := h.obj; exact ⟨C, ty, fz, h1, h2, h3, h4.mono k⟩⟩
theorem BR.world {β : Ren} {x : Blk} {T : Tgt} {w w' : World} {rw : Prop} (h : BR β x T w rw) (e : w'.heap[T.b]? = w.heap[T.b]?) : BR β x T w' rw :=
  ⟨h.n, h.es, h.opn, h.le, by rw [e]; exact h.obj⟩
theorem BR.lt {β : Ren} {x : Blk} {T : Tgt} {w : World} {rw : Prop} (h : BR β x T w rw) : T.b < w.heap.size := by
  obtain ⟨C, ty, fz, h1, _⟩ := h.obj
  rcases Nat.lt_or_ge T.b w.heap.size with k | k
  · exact k
  · simp [Array.getElem?_eq_none k] at h1
theorem BR.cell {β : Ren} {x : Blk} {T : Tgt} {w : World} {rw : Prop} (h : BR β x T w rw) {i : Nat} {v : Value} (hv : x.cells[i]? = some v) :
    ∃ v', w.cell? ⟨T.b, T.p + i, none⟩ = some v' ∧ VR β v v' := by
  obtain ⟨C, ty, fz, h1, h2, _, h4⟩ := h.obj
  obtain ⟨v', e, r⟩ := h4.get hv
  refine ⟨v', ?_, r⟩
  rw [List.getElem?_take] at e
  split at e
  · rw [List.getElem?_drop] at e
    simp [World.cell?, h1]
    simpa using e
  · cases e
theorem HR.mem {β : Ren} {H : Heap} {X : XF} {base : Nat} {w : World} (h : HR β H X base w) {i : Nat} {x : Blk} (hx : H.get i = some x) :
    ∃ T, β i = .live T ∧ BR β x T w (base0 ≤ i) ∧ (if base0 ≤ i then base ≤ T.b else T.b < base) := h.blk i x (by simp [getX, hx])
theorem HR.world {β : Ren} {H : Heap} {X : XF} {base : Nat} {w w' : World} (h : HR β H X base w) (e : ∀ i T, β i = .live T → w'.heap[T.b]? = w.heap[T.b]?)
    (hs : w.heap.size ≤ w'.heap.size) : HR β H X base w' :=
  ⟨h.next, h.fresh, h.disj, h.xlt, h.res, fun i x hx => by obtain ⟨T, h1, h2, h3⟩ := h.blk i x hx; exact ⟨T, h1, h2.world (e i T h1), h3⟩, h.live, h.inj, Nat.le_trans h.sz hs⟩
theorem HR.drew {β : Ren} {H : Heap} {X : XF} {base : Nat} {w : World} (h : HR β H X base w) : HR β H X base w.drew := h.world (fun _ _ _ => rfl) (Nat.le_refl _)
theorem HR.liveLt {β : Ren} {H : Heap} {X : XF} {base : Nat} {w : World} (h : HR β H X base w) {i : Nat} {T : Tgt} (hi : β i = .live T) : T.b < w.heap.size := by
  obtain ⟨x, hx⟩ := h.live i T hi
  obtain ⟨U, h1, h2, _⟩ := h.blk i x hx
  rw [hi] at h1
  cases h1
  exact h2.lt
theorem HR.congr {β : Ren} {H H' : Heap} {X X' : XF} {base : Nat} {w : World} (h : HR β H X base w) (e : ∀ i, getX H' X' i = getX H X i) (hn : H.next ≤ H'.next)
    (hf : ∀ i, H'.next ≤ i → β i = .un) (hd : ∀ i x, X' i = some x → H'.get i = none ∧ i < H'.next) (hr : ∀ i, X' i = some none → β i = .un) : HR β H' X' base w :=
  ⟨Nat.le_trans h.next hn, hf, fun i x hx => (hd i x hx).1, fun i x hx => (hd i x hx).2, hr,
    fun i x hx => h.blk i x (e i ▸ hx), fun i T hT => by obtain ⟨x, hx⟩ := h.live i T hT; exact ⟨x, (e i).trans hx⟩, h.inj, h.sz⟩
theorem Heap.get_put {H : Heap} {i j : Nat} {x : Option Blk} (hi : base0 ≤ i) : (H.put i x).get j = if j = i then x else H.get j := by
  have hi' : ¬ i < base0 := by omega
  have e0 : H.put i x = { H with tr := H.tr.put (i - base0) x } := by unfold Heap.put; rw [if_neg hi']
  rw [e0]
  unfold Heap.get
  by_cases hj : j < base0
  · rw [if_pos hj, if_neg (by omega), if_pos hj]
  · rw [if_neg hj, if_neg hj]
    by_cases e : j = i
    · rw [if_pos e]; subst e; exact Tr.get_put_self _ _ _
    · rw [if_neg e]; exact Tr.get_put_ne _ _ (by omega)
theorem Heap.put_next (H : Heap) (i : Nat) (x : Option Blk) : (H.put i x).next = H.next := by unfold Heap.put; split <;> rfl
theorem Heap.get_set {H : Heap} {i j : Nat} {x : Blk} (hi : base0 ≤ i) : (H.set i x).get j = if j = i then some x else H.get j := Heap.get_put hi
theorem Heap.get_del {H : Heap} {i j : Nat} (hi : base0 ≤ i) : (H.del i).get j = if j = i then none else H.get j := Heap.get_put hi
@[simp] theorem Heap.set_next (H : Heap) (i : Nat) (x : Blk) : (H.set i x).next = H.next := Heap.put_next _ _ _
@[simp] theorem Heap.del_next (H : Heap) (i : Nat) : (H.del i).next = H.next := Heap.put_next _ _ _
@[simp] theorem Heap.alloc_next (H : Heap) (x : Blk) : (H.alloc x).next = H.next + 1 := rfl
theorem Heap.get_alloc {H : Heap} {j : Nat} {x : Blk} (hi : base0 ≤ H.next) : (H.alloc x).get j = if j = H.next then some x else H.get j := by
  show (H.put H.next (some x)).get j = _
  exact Heap.get_put hi
theorem HR.add {β : Ren} {H H' : Heap} {X X' : XF} {base : Nat} {w : World} (h : HR β H X base w) (i : Nat) (x : Blk) (C : Array Value) (ty : TypeId)
    (hi : base0 ≤ i) (hu : β i = .un) (hl : i < H'.next) (hn : H.next ≤ H'.next) (hg : ∀ j, getX H' X' j = if j = i then some x else getX H X j)
    (hd : ∀ j q, X' j = some q → H'.get j = none ∧ j < H'.next) (hres : ∀ j, X' j = some none → j ≠ i ∧ X j = some none)
    (hsz : x.cells.length ≤ C.size) (hc : LR β x.cells (C.toList.take x.cells.length)) :
    let β' := upd β i (.live ⟨w.heap.size, 0, x.cells.length, C.size, x.es, x.opn⟩)
    Le β β' ∧ HR β' H' X' base (w.alloc (.cells C ty)) := by
  intro β'
  have hle : Le β β' := Le.upd hu
  refine ⟨hle, ⟨Nat.le_trans h.next hn, ?_, fun j q hq => (hd j q hq).1, fun j q hq => (hd j q hq).2, ?_, ?_, ?_, ?_, ?_⟩⟩
  · intro j hj
    show upd β i _ j = _
    rw [upd_ne _ _ (by omega)]
    exact h.fresh j (by omega)
  · intro j hj
    obtain ⟨h1, h2⟩ := hres j hj
    show upd β i _ j = _
    rw [upd_ne _ _ h1]
    exact h.res j h2
  · intro j y hy
    rw [hg] at hy
    by_cases e : j = i
    · subst e
      rw [if_pos rfl, Option.some.injEq] at hy
      subst hy
      refine ⟨_, upd_self _ _ _, ⟨rfl, rfl, rfl, by simpa using hsz, C, ty, (0, 0), ?_, rfl, fun _ => rfl, ?_⟩, ?_⟩
      · exact heap_alloc_new _ _
      · simpa using hc.mono hle
      · rw [if_pos hi]; exact h.sz
    · rw [if_neg e] at hy
      obtain ⟨T, h1, h2, h3⟩ := h.blk j y hy
      refine ⟨T, by show upd β i _ j = _; rw [upd_ne _ _ e]; exact h1, (h2.mono hle).world (Below.heap_alloc _ _ _ h2.lt), h3⟩
  · intro j T hT
    by_cases e : j = i
    · exact ⟨x, by rw [hg, if_pos e]⟩
    · have hT' : β j = .live T := by have : upd β i _ j = _ := hT; rwa [upd_ne _ _ e] at this
      obtain ⟨y, hy⟩ := h.live j T hT'
      exact ⟨y, by rw [hg, if_neg e]; exact hy⟩
  · intro j k T U hj hk hT hU hb
    by_cases e : j = i
    · by_cases f : k = i
      · omega
      · have hU' : β k = .live U := by have : upd β i _ k = _ := hU; rwa [upd_ne _ _ f] at this
        have hT' : upd β i _ j = .live T := hT
        rw [e, upd_self] at hT'
        cases hT'
        have := h.liveLt hU'
        simp at hb
        omega
    · have hT' : β j = .live T := by have : upd β i _ j = _ := hT; rwa [upd_ne _ _ e] at this
      by_cases f : k = i
      · have hU' : upd β i _ k = .live U := hU
        rw [f, upd_self] at hU'
        cases hU'
        have := h.liveLt hT'
        simp at hb
        omega
      · have hU' : β k = .live U := by have : upd β i _ k = _ := hU; rwa [upd_ne _ _ f] at this
        exact h.inj j k T U hj hk hT' hU' hb
  · rw [World.size_alloc]; exact Nat.le_trans h.sz (Nat.le_succ _)
theorem HR.xnext {β : Ren} {H : Heap} {X : XF} {base : Nat} {w : World} (h : HR β H X base w) {i : Nat} (hi : H.next ≤ i) : X i = none := by
  cases hX : X i with
  | none => rfl
  | some q => have := h.xlt i q hX; omega
theorem getX_new {H H' : Heap} {X : XF} {i : Nat} {x : Blk} (hg : ∀ j, H'.get j = if j = i then some x else H.get j) (j : Nat) : getX H' X j = if j = i then some x else getX H X j := by
  simp only [getX, hg]
  by_cases e : j = i
  · simp [e]
  · simp [e]
theorem HR.dnew {β : Ren} {H H' : Heap} {X : XF} {base : Nat} {w : World} (h : HR β H X base w) {i : Nat} {x : Blk} (hn : H.next ≤ H'.next) (hg : ∀ j, H'.get j = if j = i then some x else H.get j) (hXi : X i = none) :
    ∀ j q, X j = some q → H'.get j = none ∧ j < H'.next := by
  intro j q hq
  refine ⟨?_, Nat.lt_of_lt_of_le (h.xlt j q hq) hn⟩
  rw [hg, if_neg (by intro e; subst e; rw [hXi] at hq; cases hq)]
  exact h.disj j q hq
theorem HR.put {β : Ren} {H H' : Heap} {X : XF} {base : Nat} {w : World} (h : HR β H X base w) (i : Nat) (x y : Blk) (T : Tgt) (C C' : Array Value) (ty : TypeId)
    (hi : base0 ≤ i) (hx : H.get i = some x) (hT : β i = .live T) (hC : w.heap[T.b]? = some (.cells C ty (0, 0))) (hn : H'.next = H.next)
    (hg : ∀ j, H'.get j = if j = i then some y else H.get j) (hy : y.cells.length = x.cells.length) (hye : y.es = x.es) (hyo : y.opn = x.opn)
    (hC' : C'.size = C.size) (hc : LR β y.cells ((C'.toList.drop T.p).take T.n)) :
    HR β H' X base (w.setRow T.b C') := by
  have hother : ∀ j U, β j = .live U → j ≠ i → U.b ≠ T.b := by
    intro j U hU hne hb
    obtain ⟨z, hz⟩ := h.live j U hU
    obtain ⟨U', h1, _, h3⟩ := h.blk j z hz
    rw [hU] at h1
    cases h1
    obtain ⟨T', k1, _, k3⟩ := h.mem hx
    rw [hT] at k1
    cases k1
    rw [if_pos hi] at k3
    by_cases hj : base0 ≤ j
    · exact hne (h.inj j i U T hj hi hU hT hb)
    · rw [if_neg hj] at h3; omega
  obtain ⟨T', k1, k2, k3⟩ := h.mem hx
  rw [hT] at k1
  cases k1
  obtain ⟨C0, ty0, fz0, o1, o2, _, _⟩ := k2.obj
  rw [hC] at o1
  cases o1
  refine ⟨by rw [hn]; exact h.next, by rw [hn]; exact h.fresh, ?_, by rw [hn]; exact h.xlt, h.res, ?_, ?_, h.inj, by rw [setRow_size]; exact h.sz⟩
  · intro j z hz
    rw [hg, if_neg (by intro e; subst e; have := h.disj j z hz; rw [hx] at this; cases this)]
    exact h.disj j z hz
  · intro j z hz
    by_cases e : j = i
    · subst e
      have hz' : y = z := by simpa [getX, hg] using hz
      subst hz'
      refine ⟨T, hT, ⟨by rw [k2.n, hy], by rw [k2.es, hye], by rw [k2.opn, hyo], k2.le, C', ty, (0, 0), setRow_heap w T.b C C' ty (0, 0) hC, by rw [hC', o2], fun _ => rfl, hc⟩, k3⟩
    · have hz' : getX H X j = some z := by simpa [getX, hg, e] using hz
      obtain ⟨U, h1, h2, h3⟩ := h.blk j z hz'
      exact ⟨U, h1, h2.world (setRow_other w T.b U.b C' (hother j U h1 e)), h3⟩
  · intro j U hU
    by_cases e : j = i
    · subst e; exact ⟨y, by simp [getX, hg]⟩
    · obtain ⟨z, hz⟩ := h.live j U hU
      exact ⟨z, by simpa [getX, hg, e] using hz⟩
theorem HR.kill {β : Ren} {H H' : Heap} {X : XF} {base : Nat} {w : World} (h : HR β H X base w) (i : Nat) (hi : base0 ≤ i) (hil : i < H.next) (hXi : X i = none)
    (hn : H'.next = H.next) (hg : ∀ j, H'.get j = if j = i then none else H.get j) : HR (upd β i .dead) H' X base w := by
  have hle := Le.kill β i
  refine ⟨by rw [hn]; exact h.next, ?_, ?_, by rw [hn]; exact h.xlt, ?_, ?_, ?_, ?_, h.sz⟩
  · intro j hj
    rw [upd_ne _ _ (by omega)]
    exact h.fresh j (by omega)
  · intro j z hz
    rw [hg, if_neg (by intro e; subst e; rw [hXi] at hz; cases hz)]
    exact h.disj j z hz
  · intro j hj
    rw [upd_ne _ _ (by intro e; subst e; rw [hXi] at hj; cases hj)]
    exact h.res j hj
  · intro j z hz
    by_cases e : j = i
    · subst e; simp [getX, hg, hXi] at hz
    · have hz' : getX H X j = some z := by simpa [getX, hg, e] using hz
      obtain ⟨U, h1, h2, h3⟩ := h.blk j z hz'
      exact ⟨U, by rw [upd_ne _ _ e]; exact h1, h2.mono hle, h3⟩
  · intro j U hU
    by_cases e : j = i
    · subst e; rw [upd_self] at hU; cases hU
    · rw [upd_ne _ _ e] at hU
      obtain ⟨z, hz⟩ := h.live j U hU
      exact ⟨z, by simpa [getX, hg, e] using hz⟩
  · intro j k T U hj hk hT hU hb
    by_cases e : j = i
    · subst e; rw [upd_self] at hT; cases hT
    · by_cases f : k = i
      · subst f; rw [upd_self] at hU; cases hU
      · rw [upd_ne _ _ e] at hT; rw [upd_ne _ _ f] at hU
        exact h.inj j k T U hj hk hT hU hb
theorem HR.reuse {β : Ren} {H H' : Heap} {X : XF} {base : Nat} {w : World} (h : HR β H X base w) (i : Nat) (x : Blk) (T : Tgt) (C : Array Value) (ty : TypeId)
    (hi : base0 ≤ i) (hu : β i = .un) (hl : i < H'.next) (hn : H.next ≤ H'.next) (hg : ∀ j, H'.get j = if j = i then some x else H.get j) (hXi : X i = none)
    (hfree : ∀ j U, base0 ≤ j → β j = .live U → U.b ≠ T.b) (hb : base ≤ T.b) (hC : w.heap[T.b]? = some (.cells C ty (0, 0))) (hm : C.size = T.m)
    (h1 : T.n = x.cells.length) (h2 : T.es = x.es) (h3 : T.opn = x.opn) (h4 : T.p + T.n ≤ T.m) (hc : LR β x.cells ((C.toList.drop T.p).take T.n)) :
    Le β (upd β i (.live T)) ∧ HR (upd β i (.live T)) H' X base w := by
  have hle : Le β (upd β i (.live T)) := Le.upd hu
  refine ⟨hle, ⟨Nat.le_trans h.next hn, ?_, fun j q hq => (h.dnew hn hg hXi j q hq).1, fun j q hq => (h.dnew hn hg hXi j q hq).2, ?_, ?_, ?_, ?_, h.sz⟩⟩
  · intro j hj
    rw [upd_ne _ _ (by omega)]
    exact h.fresh j (by omega)
  · intro j hj
    rw [upd_ne _ _ (by intro e; subst e; rw [hXi] at hj; cases hj)]
    exact h.res j hj
  · intro j y hy
    by_cases e : j = i
    · subst e
      have hy' : x = y := by simpa [getX, hg] using hy
      subst hy'
      exact ⟨T, upd_self _ _ _, ⟨h1, h2, h3, h4, C, ty, (0, 0), hC, hm, fun _ => rfl, hc.mono hle⟩, by rw [if_pos hi]; exact hb⟩
    · have hy' : getX H X j = some y := by simpa [getX, hg, e] using hy
      obtain ⟨U, k1, k2, k3⟩ := h.blk j y hy'
      exact ⟨U, by rw [upd_ne _ _ e]; exact k1, k2.mono hle, k3⟩
  · intro j U hU
    by_cases e : j = i
    · subst e; exact ⟨x, by simp [getX, hg]⟩
    · rw [upd_ne _ _ e] at hU
      obtain ⟨y, hy⟩ := h.live j U hU
      exact ⟨y, by simpa [getX, hg, e] using hy⟩
  · intro j k A B hj hk hA hB hab
    by_cases e : j = i
    · by_cases f : k = i
      · omega
      · rw [e, upd_self] at hA; cases hA
        rw [upd_ne _ _ f] at hB
        exact absurd hab.symm (hfree k B hk hB)
    · rw [upd_ne _ _ e] at hA
      by_cases f : k = i
      · rw [f, upd_self] at hB; cases hB
        exact absurd hab (hfree j A hj hA)
      · rw [upd_ne _ _ f] at hB
        exact h.inj j k A B hj hk hA hB hab
end Go.Am
namespace Go.Am
open Go.RowKit
section
variable {P : Program} {β : Ren} {H : Heap} {X : XF} {base : Nat} {w : World}
theorem bind_some {α γ : Type} {x : Option α} {f : α → Option γ} {c : γ} (h : (x >>= f) = some c) : ∃ a, x = some a ∧ f a = some c := by
  cases x with
  | none => cases h
  | some a => exact ⟨a, rfl, h⟩
theorem map_some {α γ : Type} {x : Option α} {f : α → γ} {c : γ} (h : x.map f = some c) : ∃ a, x = some a ∧ f a = c := by
  cases x with
  | none => cases h
  | some a => exact ⟨a, rfl, by simpa using h⟩
theorem run_sizeOf {t : TypeId} {n : Nat} (h : szA P t = some n) (w : World) : (sizeOf t).run P w = .ok n w := by
  obtain ⟨i, hi, rfl⟩ := map_some h
  simp [sizeOf, typeInfo, hi]
theorem run_isAgg {t : TypeId} {b : Bool} (h : aggA P t = some b) (w : World) : (isAgg t).run P w = .ok b w := by
  obtain ⟨d, hd, rfl⟩ := map_some h
  simp only [isAgg, Sem.run_bind, run_underlying hd, Result.andThen_ok]
  cases d <;> rfl
theorem run_typeInfo {t : TypeId} {i : TypeInfo} (h : P.info? t = some i) (w : World) : (typeInfo t).run P w = .ok i w := by simp [typeInfo, h]
theorem run_zeroValue {t : TypeId} {z : Value} (h : zeroA P t = some z) (w : World) : (zeroValue t).run P w = .ok z w ∧ plainV z = true := by
  obtain ⟨z', hz, h2⟩ := bind_some h
  cases hi : P.info? t with
  | none => rw [hi] at hz; cases hz
  | some i =>
    rw [hi] at hz
    split at h2
    · rename_i hp
      cases h2
      have hz' : i.zero = some z := hz
      exact ⟨by simp [zeroValue, run_typeInfo hi, hz'], hp⟩
    · cases h2
theorem run_load1 (h : HR β H X base w) {a a' : Addr} {v : Value} (hl : H.load1 a = some v) (ha : AR β a a') : ∃ v', (load a').run P w = .ok v' w ∧ VR β v v' := by
  unfold Heap.load1 at hl
  obtain ⟨⟨⟩, hs, hl⟩ := bind_some (x := if a.spot.isSome = true then none else some PUnit.unit) (f := fun _ => do let x ← H.get a.block; x.cells[a.off]?) (by
    by_cases hs : a.spot.isSome = true
    · simp [hs] at hl
    · simpa [hs] using hl)
  obtain ⟨x, hx, hc⟩ := bind_some hl
  obtain ⟨T, hT, hB, _⟩ := h.mem hx
  obtain ⟨v', e, r⟩ := hB.cell hc
  refine ⟨v', ?_, r⟩
  rw [ha.2.2 T hT]
  simp [run_load, e]
theorem loads_some {a : Addr} {n : Nat} {l : List Value} (hl : H.loads a n = some l) :
    a.spot = none ∧ ∃ x, H.get a.block = some x ∧ a.off + n ≤ x.cells.length ∧ l = (x.cells.drop a.off).take n := by
  unfold Heap.loads at hl
  by_cases hs : a.spot.isSome = true
  · simp [hs] at hl
  · have hs' : a.spot = none := by cases h : a.spot <;> simp_all
    refine ⟨hs', ?_⟩
    simp only [hs] at hl
    obtain ⟨x, hx, hl⟩ := bind_some (x := H.get a.block) (by simpa using hl)
    refine ⟨x, hx, ?_⟩
    split at hl
    · rename_i hle; exact ⟨hle, by simpa using hl.symm⟩
    · cases hl
theorem row_cells (h : HR β H X base w) {a a' : Addr} {n : Nat} {l : List Value} (hl : H.loads a n = some l) (ha : AR β a a') :
    ∃ l', l'.length = n ∧ (∀ j v, l'[j]? = some v → w.cell? (a'.add j) = some v) ∧ LR β l l' := by
  obtain ⟨hs, x, hx, hle, rfl⟩ := loads_some hl
  obtain ⟨T, hT, hB, _⟩ := h.mem hx
  obtain ⟨C, ty, fz, o1, o2, _, o4⟩ := hB.obj
  have ea := ha.2.2 T hT
  have hn := hB.n
  have hTle := hB.le
  refine ⟨((((C.toList.drop T.p).take T.n).drop a.off).take n), ?_, ?_, (o4.drop a.off).take n⟩
  · simp; omega
  · intro j v hj
    rw [List.getElem?_take] at hj
    split at hj
    · rw [List.getElem?_drop, List.getElem?_take] at hj
      split at hj
      · rw [List.getElem?_drop] at hj
        rw [ea, Addr.add_lit]
        simp only [World.cell?, o1]
        simp only [Option.isSome_none, Bool.false_eq_true, if_false]
        rw [← Array.getElem?_toList, ← hj]
        congr 1
        omega
      · cases hj
    · cases hj
theorem run_loads (h : HR β H X base w) {a a' : Addr} {n : Nat} {l : List Value} (hl : H.loads a n = some l) (ha : AR β a a') :
    ∃ l', (loadCells a' n).run P w = .ok l'.toArray w ∧ LR β l l' := by
  obtain ⟨l', e, c, r⟩ := row_cells h hl ha
  refine ⟨l', ?_, r⟩
  rw [← e]
  exact run_loadCells_list w a' l' c
theorem run_loadVar (h : HR β H X base w) {t : TypeId} {a a' : Addr} {u : Value} (hl : loadA P H t (.pointer (some a)) = some u) (ha : AR β a a') :
    ∃ u', (loadVar t a').run P w = .ok u' w ∧ VR β u u' := by
  unfold loadA at hl
  obtain ⟨b, hb, hl1⟩ := bind_some hl
  cases b with
  | true =>
    have hl : (do let n ← szA P t; (H.loads a n).map fun l => Value.agg l.toArray) = some u := hl1
    obtain ⟨n, hn, hl2⟩ := bind_some hl
    obtain ⟨l, hl3, rfl⟩ := map_some hl2
    obtain ⟨l', e, r⟩ := run_loads (P := P) h hl3 ha
    refine ⟨.agg l'.toArray, ?_, .aggL (by simpa using r)⟩
    simp [loadVar, run_isAgg hb, run_sizeOf hn, e]
  | false =>
    have hl2 : H.load1 a = some u := hl1
    obtain ⟨u', e, r⟩ := run_load1 (P := P) h hl2 ha
    refine ⟨u', ?_, r⟩
    simp only [loadVar, Sem.run_bind, run_isAgg hb, Result.andThen_ok, Bool.false_eq_true, if_false, e]
theorem run_loadAt (h : HR β H X base w) {t : TypeId} {v v' u : Value} (hl : loadA P H t v = some u) (hv : VR β v v') :
    ∃ u', (Instr.loadAt t v').run P w = .ok u' w ∧ VR β u u' := by
  cases hv with
  | ptr ha =>
    obtain ⟨u', e, r⟩ := run_loadVar h hl ha
    exact ⟨u', by simp [Instr.loadAt, Instr.sureAddr, e], r⟩
  | _ => simp [loadA] at hl
theorem run_stores (h : HR β H X base w) {a a' : Addr} {vs vs' : List Value} {H' : Heap} (hs : H.stores a vs = some H') (ha : AR β a a') (hv : LR β vs vs') :
    ∃ w', (storeCells a' vs').run P w = .ok () w' ∧ HR β H' X base w' ∧ Below base w w' ∧ H'.next = H.next := by
  unfold Heap.stores at hs
  by_cases hc : (a.spot.isSome || a.block < base0 || !vs.all Heap.oneC) = true
  · simp [hc] at hs
  simp only [hc] at hs
  have hc' : a.spot.isSome = false ∧ base0 ≤ a.block ∧ vs.all Heap.oneC = true := by
    simp only [Bool.or_eq_true, not_or, decide_eq_true_eq, Bool.not_eq_true', Bool.not_eq_false] at hc
    refine ⟨by simpa using hc.1.1, by omega, by simpa using hc.2⟩
  obtain ⟨_, hb, hone⟩ := hc'
  obtain ⟨x, hx, hs⟩ := bind_some (x := H.get a.block) (by simpa using hs)
  split at hs
  case isFalse => cases hs
  rename_i hle
  cases hs
  obtain ⟨T, hT, hB, hbb⟩ := h.mem hx
  obtain ⟨C, ty, fz, o1, o2, o3, o4⟩ := hB.obj
  have ofz : fz = (0, 0) := o3 hb
  subst ofz
  have hn := hB.n
  have hTle := hB.le
  have hlen := hv.1
  have ea := ha.2.2 T hT
  have hall : ∀ v ∈ vs', v.oneCell' = true := by
    intro v hv'
    obtain ⟨j, hj, rfl⟩ := List.getElem_of_mem hv'
    have hj0 : j < vs.length := by omega
    have hr := hv.2 j vs[j] vs'[j] (by simp [hj0]) (by simp [hj])
    exact hr.oneC (List.all_eq_true.1 hone _ (List.getElem_mem hj0))
  have hrun := run_storeCells_at (P := P) T.b (T.p + a.off) ty vs' 0 C w o1 (by omega) hall
  rw [← ea] at hrun
  refine ⟨_, hrun, ?_, ?_, by simp⟩
  · refine h.put a.block x _ T C _ ty hb hx hT o1 (by simp) (fun j => Heap.get_set hb) ?_ rfl rfl ?_ ?_
    · show (Heap.splice x.cells a.off vs).length = _
      simp [Heap.splice]; omega
    · simp; omega
    · show LR β (Heap.splice x.cells a.off vs) _
      have e : ((C.toList.take (T.p + a.off) ++ vs' ++ C.toList.drop (T.p + a.off + vs'.length)).drop T.p).take T.n
          = Heap.splice ((C.toList.drop T.p).take T.n) a.off vs' := by
        apply List.ext_getElem?
        intro j
        simp only [Heap.splice, List.getElem?_take, List.getElem?_drop, List.getElem?_append, List.length_take, List.length_drop, Array.length_toList, List.length_append, List.take_take]
        have hsz : C.size = T.m := o2
        by_cases h1 : j < T.n
        · rw [if_pos h1]
          by_cases h2 : j < a.off
          · simp (disch := omega) only [if_pos]
          · by_cases h3 : j < a.off + vs'.length
            · simp (disch := omega) only [if_pos, if_neg]
              congr 1
              omega
            · rw [if_neg (by omega), if_neg (by omega), if_pos (by omega)]
              congr 1
              omega
        · rw [if_neg h1]
          symm
          rw [if_neg (by omega), if_neg (by omega)]
      simp only [Nat.add_zero]
      rw [e]
      exact ((o4.take a.off).append hv).append (by rw [hlen]; exact o4.drop _)
  · rw [if_pos hb] at hbb
    exact below_setRow (Below.refl _ _) hbb _
theorem run_storeAt (h : HR β H X base w) {t : TypeId} {p p' v v' : Value} {H' : Heap} (hs : storeA P H t p v = some H') (hp : VR β p p') (hv : VR β v v') :
    ∃ w', (Instr.storeAt t p' v').run P w = .ok () w' ∧ HR β H' X base w' ∧ Below base w w' ∧ H'.next = H.next := by
  cases hp with
  | ptr ha =>
    unfold storeA at hs
    obtain ⟨n, hn, hs⟩ := bind_some hs
    split at hs
    case isFalse => cases hs
    rename_i hsz
    obtain ⟨w', e, r⟩ := run_stores (P := P) h hs ha hv.cells
    refine ⟨w', ?_, r⟩
    have hsz' : v'.cells.size = n := by have := hv.cells.1; simp at this; omega
    simp [Instr.storeAt, Instr.sureAddr, storeVar, run_sizeOf hn, hsz', e]
  | _ => simp [storeA] at hs
end
end Go.Am
namespace Go.Am
open Go.RowKit
section
variable {P : Program} {β : Ren}
inductive PR (β : Ren) : List (Nat × Value) → List (Nat × Value) → Prop
  | nil : PR β [] []
  | cons (i : Nat) {v v' : Value} {l l' : List (Nat × Value)} (h : VR β v v') (k : PR β l l') : PR β ((i, v) :: l) ((i, v') :: l')
theorem LR.set {xs ys : List Value} (h : LR β xs ys) {v v' : Value} (hv : VR β v v') (i : Nat) : LR β (xs.set i v) (ys.set i v') := by
  refine ⟨by simp [h.1], fun j u u' hu hu' => ?_⟩
  rw [List.getElem?_set] at hu hu'
  by_cases e : i = j
  · subst e
    by_cases hi : i < xs.length
    · simp only [if_true, hi] at hu; simp only [if_true, (h.1 ▸ hi : i < ys.length)] at hu'
      cases hu; cases hu'; exact hv
    · simp [hi] at hu
  · rw [if_neg e] at hu hu'; exact h.2 j u u' hu hu'
theorem fold_set (off : Nat) : ∀ (cs cs' : List Value) (n : Nat) (xs ys : Array Value), LR β cs cs' → LR β xs.toList ys.toList →
    LR β ((cs.zipIdx n).foldl (fun a (x : Value × Nat) => a.setIfInBounds (off + x.2) x.1) xs).toList ((cs'.zipIdx n).foldl (fun a (x : Value × Nat) => a.setIfInBounds (off + x.2) x.1) ys).toList
  | [], [], _, _, _, _, h => h
  | c :: cs, c' :: cs', n, xs, ys, hc, h => by
    obtain ⟨h1, h2⟩ := hc.head
    simp only [List.zipIdx_cons, List.foldl_cons]
    exact fold_set off cs cs' (n + 1) _ _ h2 (by simp only [Array.toList_setIfInBounds]; exact h.set h1 _)
  | [], _ :: _, _, _, _, hc, _ => by have := hc.1; simp at this
  | _ :: _, [], _, _, _, hc, _ => by have := hc.1; simp at this
theorem fill_rel (place : Nat → Option (Nat × Nat)) : ∀ (ps ps' : List (Nat × Value)) (xs ys out : Array Value), PR β ps ps' → LR β xs.toList ys.toList → Instr.fill place xs ps = some out →
    ∃ out', Instr.fill place ys ps' = some out' ∧ LR β out.toList out'.toList
  | _, _, xs, ys, out, .nil, h, e => by
    simp only [Instr.fill, Option.some.injEq] at e
    subst e
    exact ⟨ys, rfl, h⟩
  | _, _, xs, ys, out, .cons (l := l) (l' := l') i (v := v) (v' := v') hv k, h, e => by
    simp only [Instr.fill] at e ⊢
    cases hp : place i with
    | none => rw [hp] at e; cases e
    | some q =>
      obtain ⟨off, size⟩ := q
      rw [hp] at e
      have hsz : v'.cells.size = v.cells.size := by have := hv.cells.1; simpa using this.symm
      have hsz2 : ys.size = xs.size := by have := h.1; simpa using this.symm
      simp only at e ⊢
      split at e
      · cases e
      · rename_i hn
        rw [hsz, hsz2, if_neg hn]
        have hf := fold_set (β := β) off v.cells.toList v'.cells.toList 0 xs ys hv.cells h
        have e1 : ∀ (a : Array Value) (z : Array Value), a.zipIdx.foldl (fun cs (x : Value × Nat) => cs.setIfInBounds (off + x.2) x.1) z = (a.toList.zipIdx 0).foldl (fun cs (x : Value × Nat) => cs.setIfInBounds (off + x.2) x.1) z := by
          intro a z
          rw [← Array.foldl_toList, Array.toList_zipIdx]
        refine fill_rel place l l' _ _ out k ?_ e
        have f1 := e1 v.cells xs
        have f2 := e1 v'.cells ys
        rw [← f1, ← f2] at hf
        exact hf
theorem many_eq (z : Array Value) : ∀ n, ((Array.range (n * z.size)).map (z[· % z.size]!)).toList = manyA z.toList n := by
  intro n
  have key : ∀ n, (List.range (n * z.size)).map (z[· % z.size]!) = manyA z.toList n := by
    intro n
    induction n with
    | zero => simp [manyA]
    | succ n ih =>
      have e : (n + 1) * z.size = z.size + n * z.size := by rw [Nat.succ_mul, Nat.add_comm]
      rw [e, List.range_add, List.map_append, List.map_map, manyA]
      congr 1
      · apply List.ext_getElem?
        intro j
        by_cases hj : j < z.size
        · simp [hj, Nat.mod_eq_of_lt hj]
        · simp [hj]
      · rw [← ih]
        apply List.map_congr_left
        intro i _
        simp [Nat.add_mod_left]
  simpa using key n
theorem manyA_len (z : List Value) : ∀ n, (manyA z n).length = n * z.length
  | 0 => by simp [manyA]
  | n + 1 => by simp [manyA, manyA_len z n, Nat.succ_mul, Nat.add_comm]
theorem LR.many {z z' : List Value} (h : LR β z z') : ∀ n, LR β (manyA z n) (manyA z' n)
  | 0 => .nil β
  | n + 1 => h.append (LR.many h n)
theorem run_buildA {t : TypeId} {ps ps' : List (Nat × Value)} {v : Value} (h : buildA P t ps = some v) (hp : PR β ps ps') (w : World) :
    ∃ v', (Instr.build t ps'.toArray).run P w = .ok v' w ∧ VR β v v' := by
  unfold buildA at h
  obtain ⟨z, hz, h1⟩ := bind_some h
  obtain ⟨d, hd, h2⟩ := bind_some h1
  have hzz := (run_zeroValue hz w).2
  have hzr : LR β z.cells.toList z.cells.toList := (VR.plain hzz).cells
  obtain ⟨i, hi, hiz⟩ : ∃ i, P.info? t = some i ∧ i.zero = some z := by
    unfold zeroA at hz
    obtain ⟨z', hz', k⟩ := bind_some hz
    cases hi : P.info? t with
    | none => rw [hi] at hz'; cases hz'
    | some i =>
      rw [hi] at hz'
      split at k
      · cases k; exact ⟨i, rfl, hz'⟩
      · cases k
  cases d with
  | struct fields =>
    obtain ⟨places, hpl, h3⟩ := bind_some h2
    obtain ⟨out, ho, rfl⟩ := map_some h3
    obtain ⟨out', ho', r⟩ := fill_rel _ ps ps' _ _ _ hp hzr ho
    refine ⟨.agg out', ?_, .aggL r⟩
    refine run_build w t ps'.toArray out' ?_
    have hpl' : fields.toList.mapM (fun f => (P.info? f.type).map fun i => (f.offset, i.size)) = some places := by
      have e : (fun f : Field => (P.info? f.type).map fun i => (f.offset, i.size)) = fun f : Field => (szA P f.type).map fun n => (f.offset, n) := by
        funext f; simp [szA, Option.map_map, Function.comp_def]
      rw [e]; exact hpl
    simp only [Program.built, hi, hd, hiz, hpl']
    simpa using ho'
  | array n e =>
    obtain ⟨size, hs, h3⟩ := bind_some h2
    obtain ⟨out, ho, rfl⟩ := map_some h3
    obtain ⟨out', ho', r⟩ := fill_rel _ ps ps' _ _ _ hp hzr ho
    refine ⟨.agg out', ?_, .aggL r⟩
    refine run_build w t ps'.toArray out' ?_
    obtain ⟨ie, hie, rfl⟩ := map_some hs
    simp only [Program.built, hi, hd, hiz, hie]
    simpa using ho'
  | _ => cases h2
theorem run_fieldAddrA {s : TypeId} {v v' u : Value} {f : Nat} (h : fieldAddrA P s v f = some u) (hv : VR β v v') (w : World) :
    ∃ u', (Instr.fieldAt s v' f).run P w = .ok u' w ∧ VR β u u' := by
  unfold fieldAddrA at h
  obtain ⟨d, hd, h1⟩ := bind_some h
  cases d with
  | struct fields =>
    cases hv with
    | ptr ha =>
      rename_i a a'
      obtain ⟨fd, hf, h2⟩ := bind_some h1
      obtain ⟨n, hn, h3⟩ := bind_some h2
      split at h3
      · cases h3
      · rename_i hc
        cases h3
        have hn0 : n ≠ 0 := by intro e; subst e; simp at hc
        refine ⟨.pointer (some (a'.add fd.offset)), ?_, .ptr ⟨rfl, ha.2.1, fun T hT => ?_⟩⟩
        · simp [Instr.fieldAt, run_underlying hd, hf, Instr.sureAddr, fieldPlace, run_sizeOf hn, hn0]
        · rw [ha.2.2 T hT, Addr.add_lit, Nat.add_assoc]
    | _ => cases h1
  | _ => cases h1
theorem run_partA {t : TypeId} {x x' : Array Value} {off : Nat} {u : Value} (h : partA P t x off = some u) (hx : LR β x.toList x'.toList) (w : World) :
    ∃ u', (part t x' off).run P w = .ok u' w ∧ VR β u u' := by
  unfold partA at h
  obtain ⟨b, hb, h1⟩ := bind_some h
  cases b with
  | true =>
    have h2 : (do let n ← szA P t; some (Value.agg (x.extract off (off + n)))) = some u := h1
    obtain ⟨n, hn, h3⟩ := bind_some h2
    cases h3
    refine ⟨.agg (x'.extract off (off + n)), by simp [part, run_isAgg hb, run_sizeOf hn], .aggL ?_⟩
    simp only [Array.toList_extract]
    exact (hx.drop off).take _
  | false =>
    have h2 : x[off]? = some u := h1
    obtain ⟨u', e, r⟩ := hx.get (i := off) (u := u) (by simpa using h2)
    have e' : x'[off]? = some u' := by simpa using e
    exact ⟨u', by simp [part, run_isAgg hb, e'], r⟩
theorem run_fieldA {t : TypeId} {v v' u : Value} {f : Nat} (h : fieldA P t v f = some u) (hv : VR β v v') (w : World) :
    ∃ u', (Instr.field t v' f).run P w = .ok u' w ∧ VR β u u' := by
  unfold fieldA at h
  obtain ⟨d, hd, h1⟩ := bind_some h
  cases d with
  | struct fields =>
    cases hv with
    | agg hx kx =>
      obtain ⟨fd, hf, h2⟩ := bind_some h1
      obtain ⟨u', e, r⟩ := run_partA h2 (LR.ofA hx kx) w
      exact ⟨u', by simp [Instr.field, run_underlying hd, hf, asAgg, e], r⟩
    | _ => cases h1
  | _ => cases h1
theorem run_indexAddrA {t : TypeId} {v v' x x' u : Value} (h : indexAddrA P t v x = some u) (hv : VR β v v') (hx : VR β x x') (w : World) :
    ∃ u', (Instr.indexAt t v' x').run P w = .ok u' w ∧ VR β u u' := by
  unfold indexAddrA at h
  obtain ⟨d, hd, h1⟩ := bind_some h
  cases d with
  | array n e =>
    cases hv with
    | ptr ha =>
      rename_i a a'
      cases hx with
      | int k i =>
        simp only at h1
        split at h1
        · cases h1
        split at h1
        case isFalse => cases h1
        rename_i hi
        obtain ⟨sz, hsz, h3⟩ := bind_some h1
        cases h3
        refine ⟨.pointer (some (a'.add (i.toNat * sz))), ?_, .ptr ⟨rfl, ha.2.1, fun T hT => ?_⟩⟩
        · simp [Instr.indexAt, asIntOf, run_underlying hd, Instr.sureAddr, hi, run_sizeOf hsz]
        · rw [ha.2.2 T hT, Addr.add_lit, Nat.add_assoc]
      | _ => cases h1
    | _ => cases h1
  | slice e =>
    cases hv with
    | sl l c hc hl ha =>
      rename_i a a'
      cases hx with
      | int k i =>
        simp only at h1
        split at h1
        · cases h1
        rename_i hsc
        split at h1
        case isFalse => cases h1
        rename_i hi
        obtain ⟨sz, hsz, h3⟩ := bind_some h1
        cases h3
        have hc0 : c ≠ 0 := by intro e; subst e; simp at hsc
        have ha' : AR β a a' := ha.resolve_left hc0
        refine ⟨.pointer (some (a'.add (i.toNat * sz))), ?_, .ptr ⟨rfl, ha'.2.1, fun T hT => ?_⟩⟩
        · simp [Instr.indexAt, asIntOf, run_underlying hd, hi, run_sizeOf hsz]
        · rw [ha'.2.2 T hT, Addr.add_lit, Nat.add_assoc]
      | _ => cases h1
    | op l c hl hs hu ha =>
      rename_i a a'
      cases hx with
      | int k i =>
        simp only at h1
        split at h1
        · cases h1
        split at h1
        case isFalse => cases h1
        rename_i hi
        obtain ⟨sz, hsz, h3⟩ := bind_some h1
        cases h3
        refine ⟨.pointer (some (a'.add (i.toNat * sz))), ?_, .ptr ⟨rfl, hu, fun T hT => ?_⟩⟩
        · simp [Instr.indexAt, asIntOf, run_underlying hd, hi, run_sizeOf hsz]
        · obtain ⟨_, _, hd⟩ := ha T hT
          rw [hd.resolve_left (by omega), Addr.add_lit, Nat.add_assoc]
      | _ => cases h1
    | _ => cases h1
  | _ => cases h1
theorem run_indexA {t : TypeId} {v v' x x' u : Value} (h : indexA P t v x = some u) (hv : VR β v v') (hx : VR β x x') (w : World) :
    ∃ u', (Instr.index t v' x').run P w = .ok u' w ∧ VR β u u' := by
  unfold indexA at h
  obtain ⟨d, hd, h1⟩ := bind_some h
  cases d with
  | array n e =>
    cases hv with
    | agg hs kx =>
      cases hx with
      | int k i =>
        simp only at h1
        split at h1
        case isFalse => cases h1
        rename_i hi
        obtain ⟨sz, hsz, h3⟩ := bind_some h1
        obtain ⟨u', e, r⟩ := run_partA h3 (LR.ofA hs kx) w
        exact ⟨u', by simp [Instr.index, asIntOf, run_underlying hd, hi, run_sizeOf hsz, e], r⟩
      | _ => cases h1
    | _ => cases h1
  | string =>
    cases hv with
    | string s =>
      cases hx with
      | int k i =>
        simp only at h1
        split at h1
        case isFalse => cases h1
        rename_i hi
        obtain ⟨b, hb, rfl⟩ := map_some h1
        exact ⟨_, by simp [Instr.index, asIntOf, run_underlying hd, hi, hb], .int _ _⟩
      | _ => cases h1
    | _ => cases h1
  | _ => cases h1
end
end Go.Am
namespace Go.Am
open Go.RowKit
section
variable {P : Program} {β : Ren} {H : Heap} {X : XF} {base : Nat} {w : World}
def OR (β : Ren) : Option Value → Option Value → Prop
  | none, none => True
  | some v, some v' => VR β v v'
  | _, _ => False
theorem boundA_some {x : Value} {d y n : Nat} (h : boundA (some x) d y = some n) : ∃ k i, x = .int k i ∧ 0 ≤ i ∧ i ≤ (y : Int) ∧ n = i.toNat := by
  unfold boundA at h
  cases x with
  | int k i =>
    simp only at h
    split at h
    · rename_i hi; cases h; exact ⟨k, i, rfl, hi.1, hi.2, rfl⟩
    · cases h
  | _ => cases h
theorem OR.bound {x x' : Option Value} (hx : OR β x x') {d y n : Nat} (h : boundA x d y = some n) :
    (x = none ∧ x' = none ∧ n = d) ∨ ∃ k i, x = some (.int k i) ∧ x' = some (.int k i) ∧ 0 ≤ i ∧ i ≤ (y : Int) ∧ n = i.toNat := by
  cases x with
  | none =>
    cases x' with
    | none => left; simp [boundA] at h; exact ⟨rfl, rfl, h.symm⟩
    | some v => cases hx
  | some v =>
    cases x' with
    | none => cases hx
    | some v' =>
      obtain ⟨k, i, rfl, h0, h1, h2⟩ := boundA_some h
      have hv : VR β (.int k i) v' := hx
      cases hv
      exact .inr ⟨k, i, rfl, rfl, h0, h1, h2⟩
theorem run_bounds {isSlice : Bool} {len cap m0 m h l : Nat} {lo hi mx lo' hi' mx' : Option Value} (hlo : OR β lo lo') (hhi : OR β hi hi') (hmx : OR β mx mx')
    (hm : boundA mx m0 m0 = some m) (hh : boundA hi len m = some h) (hl : boundA lo 0 h = some l) (hc : m0 ≤ cap) (hg : mx.isSome = true → hi.isSome = true) (w : World) :
    (Instr.sliceBounds isSlice len cap lo' hi' mx').run P w = .ok (l, h, if mx.isSome then m else cap) w := by
  rcases hmx.bound hm with ⟨rfl, rfl, rfl⟩ | ⟨km, im, rfl, rfl, m1, m2, rfl⟩
  · rcases hhi.bound hh with ⟨rfl, rfl, rfl⟩ | ⟨kh, ih, rfl, rfl, a1, a2, rfl⟩
    · rcases hlo.bound hl with ⟨rfl, rfl, rfl⟩ | ⟨kl, il, rfl, rfl, b1, b2, rfl⟩
      · simp [Instr.sliceBounds]
      · simp [Instr.sliceBounds, run_sliceBound w kl il _ _ b1 b2]
    · rcases hlo.bound hl with ⟨rfl, rfl, rfl⟩ | ⟨kl, il, rfl, rfl, b1, b2, rfl⟩
      · simp [Instr.sliceBounds, run_sliceBound w kh ih cap _ a1 (by omega)]
      · simp [Instr.sliceBounds, run_sliceBound w kh ih cap _ a1 (by omega), run_sliceBound w kl il _ _ b1 b2]
  · rcases hhi.bound hh with ⟨rfl, rfl, rfl⟩ | ⟨kh, ih, rfl, rfl, a1, a2, rfl⟩
    · simp at hg
    · rcases hlo.bound hl with ⟨rfl, rfl, rfl⟩ | ⟨kl, il, rfl, rfl, b1, b2, rfl⟩
      · simp [Instr.sliceBounds, run_sliceBound w km im cap _ m1 (by omega), run_sliceBound w kh ih _ _ a1 a2]
      · simp [Instr.sliceBounds, run_sliceBound w km im cap _ m1 (by omega), run_sliceBound w kh ih _ _ a1 a2, run_sliceBound w kl il _ _ b1 b2]
theorem boundA_le {x : Option Value} {d y n : Nat} (h : boundA x d y = some n) : n ≤ y ∨ (x = none ∧ n = d) := by
  cases x with
  | none => right; simp [boundA] at h; exact ⟨rfl, h.symm⟩
  | some v => obtain ⟨k, i, _, h0, h1, rfl⟩ := boundA_some h; left; omega
theorem VR.sliced {a a' : Addr} {cap m h l size : Nat} (hc : cap < openCap) (hm : m ≤ cap) (hh : h ≤ m) (ha : cap = 0 ∨ AR β a a') :
    VR β (.slice (some ⟨a.block, a.off + l * size, none⟩) (h - l) (m - l)) (.slice (some (if m = l then a' else a'.add (l * size))) (h - l) (m - l)) := by
  refine .sl _ _ (by omega) (by omega) ?_
  by_cases e : m - l = 0
  · exact .inl e
  · right
    rw [if_neg (by omega)]
    have ha' := ha.resolve_left (by omega)
    exact ⟨rfl, ha'.2.1, fun T hT => by rw [ha'.2.2 T hT, Addr.add_lit, Nat.add_assoc]⟩
theorem run_sliceA (hr : HR β H X base w) {t : TypeId} {v v' u : Value} {lo hi mx lo' hi' mx' : Option Value} (h : sliceA P H t v lo hi mx = some u) (hv : VR β v v')
    (hlo : OR β lo lo') (hhi : OR β hi hi') (hmx : OR β mx mx') : ∃ u', (Instr.sliceAt t v' lo' hi' mx').run P w = .ok u' w ∧ VR β u u' := by
  unfold sliceA at h
  obtain ⟨d, hd, h1⟩ := bind_some h
  cases d with
  | string =>
    cases hv with
    | string s =>
      simp only at h1
      split at h1
      · cases h1
      rename_i hmx0
      have : mx = none := by cases mx <;> simp_all
      subst this
      cases mx' with
      | some _ => cases hmx
      | none =>
        obtain ⟨hh, e1, h2⟩ := bind_some h1
        obtain ⟨ll, e2, h3⟩ := bind_some h2
        cases h3
        have hb := run_bounds (P := P) (isSlice := false) (m0 := s.size) (cap := s.size) (m := s.size) hlo hhi hmx (by simp [boundA]) e1 e2 (Nat.le_refl _) (by simp) w
        exact ⟨_, by simp [Instr.sliceAt, run_underlying hd, Instr.slice, hb], .string _⟩
    | _ => cases h1
  | slice elem =>
    cases v with
    | slice a len cap =>
      obtain ⟨size, hs, h2⟩ := bind_some h1
      split at h2
      · -- an open one
        rename_i hopen
        subst hopen
        cases a with
        | none => cases h2
        | some a =>
          simp only at h2
          split at h2
          · cases h2
          rename_i hsp
          obtain ⟨x, hx, h3⟩ := bind_some h2
          split at h3
          · cases h3
          rename_i hes
          obtain ⟨T, hT, hB, _⟩ := hr.mem hx
          have hsz0 : size ≠ 0 := by intro e; subst e; simp at hsp
          have hes' : x.es = size := by simpa using hes
          have hTes : T.es = size := by rw [hB.es, hes']
          have hTn := hB.n
          have hTle := hB.le
          cases hv with
          | sl l c hc hl ha => exact absurd hc (Nat.lt_irrefl _)
          | op l c hl hs0 hu ha =>
            rename_i a'
            obtain ⟨ho, hcap, hadr⟩ := ha T hT
            rw [hTes] at hcap
            have hmost : (x.cells.length - a.off) / size ≤ c := by
              have : x.cells.length - a.off ≤ c * size := by omega
              calc (x.cells.length - a.off) / size ≤ (c * size) / size := Nat.div_le_div_right this
                _ = c := Nat.mul_div_cancel _ (by omega)
            cases mx with
            | none =>
              cases mx' with
              | some _ => cases hmx
              | none =>
                obtain ⟨hh, e1, h4⟩ := bind_some h3
                obtain ⟨ll, e2, h5⟩ := bind_some h4
                cases h5
                have hb := run_bounds (P := P) (isSlice := true) (m0 := (x.cells.length - a.off) / size) (cap := c) (m := (x.cells.length - a.off) / size) hlo hhi hmx (by simp [boundA]) e1 e2 hmost (by simp) w
                have hhc : hh ≤ c := by rcases boundA_le e1 with k | ⟨_, k⟩ <;> omega
                have hlc : ll ≤ hh := by rcases boundA_le e2 with k | ⟨_, k⟩ <;> omega
                refine ⟨.slice (some (if c = ll then a' else a'.add (ll * size))) (hh - ll) (c - ll), ?_, .op _ _ (by omega) rfl hu fun U hU => ?_⟩
                · simp only [Instr.sliceAt, Sem.run_bind, run_underlying hd, Result.andThen_ok, Instr.slice, hb, run_sizeOf hs, Sem.run_pure, Option.isSome_none, Bool.false_eq_true, if_false]
                  congr 2
                  split <;> rfl
                rw [hT] at hU
                cases hU
                refine ⟨ho, ?_, ?_⟩
                · rw [hTes, ← hcap]
                  have : (c - ll) * size + ll * size = c * size := by rw [← Nat.add_mul]; congr 1; omega
                  simp only
                  omega
                · by_cases e : c = ll
                  · left; omega
                  · right
                    rw [if_neg e, hadr.resolve_left (by omega), Addr.add_lit, Nat.add_assoc]
            | some mv =>
              simp only at h3
              split at h3
              · cases h3
              rename_i hhs
              obtain ⟨m, e0, h4⟩ := bind_some h3
              obtain ⟨hh, e1, h5⟩ := bind_some h4
              obtain ⟨ll, e2, h6⟩ := bind_some h5
              split at h6
              case isFalse => cases h6
              rename_i hmo
              cases h6
              have hb := run_bounds (P := P) (isSlice := true) (cap := c) hlo hhi hmx e0 e1 e2 hmost (by intro _; cases hi <;> simp_all) w
              have hmm : m ≤ (x.cells.length - a.off) / size := by rcases boundA_le e0 with k | ⟨k, _⟩; exact k; cases k
              have hhm : hh ≤ m := by
                rcases boundA_le e1 with k | ⟨k, _⟩
                · exact k
                · subst k; simp at hhs
              refine ⟨.slice (some (if m = ll then a' else a'.add (ll * size))) (hh - ll) (m - ll), ?_, ?_⟩
              · simp only [Instr.sliceAt, Sem.run_bind, run_underlying hd, Result.andThen_ok, Instr.slice, hb, run_sizeOf hs, Sem.run_pure, Option.isSome_some, if_true]
                congr 2
                split <;> rfl
              refine .sl _ _ (by omega) (by omega) ?_
              by_cases e : m - ll = 0
              · exact .inl e
              · right
                rw [if_neg (by omega)]
                refine ⟨rfl, hu, fun U hU => ?_⟩
                rw [hT] at hU
                cases hU
                rw [hadr.resolve_left (by omega), Addr.add_lit, Nat.add_assoc]
      · rename_i hopen
        split at h2
        · cases h2
        rename_i hg0
        obtain ⟨m, e0, h3⟩ := bind_some h2
        obtain ⟨hh, e1, h4⟩ := bind_some h3
        obtain ⟨ll, e2, h5⟩ := bind_some h4
        have hg : mx.isSome = true → hi.isSome = true := by cases mx <;> cases hi <;> simp_all
        have hif : (if mx.isSome = true then m else cap) = m := by
          cases mx with
          | none => simp [boundA] at e0; simp [e0]
          | some _ => simp
        have hmc : m ≤ cap := by rcases boundA_le e0 with k | ⟨_, k⟩ <;> omega
        cases a with
        | none =>
          cases h5
          cases hv with
          | nils l c hc =>
            have hb := run_bounds (P := P) (isSlice := true) (cap := cap) hlo hhi hmx e0 e1 e2 (Nat.le_refl _) hg w
            rw [hif] at hb
            refine ⟨.slice none (hh - ll) (m - ll), ?_, .nils _ _ (by omega)⟩
            simp only [Instr.sliceAt, Sem.run_bind, run_underlying hd, Result.andThen_ok, Instr.slice, hb, run_sizeOf hs, Sem.run_pure]
            congr 2
            split <;> rfl
        | some a =>
          simp only at h5
          split at h5
          · cases h5
          cases h5
          cases hv with
          | op l c hl hs0 hu ha => exact absurd rfl hopen
          | sl l c hc hl ha =>
            rename_i a'
            have hb := run_bounds (P := P) (isSlice := true) (cap := cap) hlo hhi hmx e0 e1 e2 (Nat.le_refl _) hg w
            rw [hif] at hb
            have hhm : hh ≤ m := by
              rcases boundA_le e1 with k | ⟨k, k2⟩
              · exact k
              · subst k
                have : mx = none := by cases mx <;> simp_all
                subst this
                simp [boundA] at e0
                omega
            refine ⟨_, ?_, VR.sliced hc hmc hhm ha⟩
            simp only [Instr.sliceAt, Sem.run_bind, run_underlying hd, Result.andThen_ok, Instr.slice, hb, run_sizeOf hs, Sem.run_pure]
            congr 2
            split <;> rfl
    | _ => cases h1
  | array n elem =>
    cases hv with
    | ptr ha =>
      rename_i a a'
      simp only at h1
      split at h1
      · cases h1
      rename_i hn
      split at h1
      · cases h1
      rename_i hg0
      obtain ⟨m, e0, h3⟩ := bind_some h1
      obtain ⟨hh, e1, h4⟩ := bind_some h3
      obtain ⟨ll, e2, h5⟩ := bind_some h4
      obtain ⟨size, hs, h6⟩ := bind_some h5
      cases h6
      have hg : mx.isSome = true → hi.isSome = true := by cases mx <;> cases hi <;> simp_all
      have hif : (if mx.isSome = true then m else n) = m := by
        cases mx with
        | none => simp [boundA] at e0; simp [e0]
        | some _ => simp
      have hmc : m ≤ n := by rcases boundA_le e0 with k | ⟨_, k⟩ <;> omega
      have hno : n < openCap := by
        simp only [Bool.or_eq_true, not_or, decide_eq_true_eq] at hn
        omega
      have hb := run_bounds (P := P) (isSlice := false) (cap := n) hlo hhi hmx e0 e1 e2 (Nat.le_refl _) hg w
      rw [hif] at hb
      have hhm : hh ≤ m := by
        rcases boundA_le e1 with k | ⟨k, k2⟩
        · exact k
        · subst k
          have : mx = none := by cases mx <;> simp_all
          subst this
          simp [boundA] at e0
          omega
      refine ⟨_, ?_, VR.sliced hno hmc hhm (.inr ha)⟩
      simp only [Instr.sliceAt, Sem.run_bind, run_underlying hd, Result.andThen_ok, Instr.sureAddr, hb, run_sizeOf hs, Sem.run_pure]
    | _ => cases h1
  | pointer arr =>
    cases hv with
    | ptr ha =>
      rename_i a a'
      obtain ⟨d2, hd2, h2⟩ := bind_some h1
      cases d2 with
      | array n elem =>
        simp only at h2
        split at h2
        · cases h2
        rename_i hn
        split at h2
        · cases h2
        rename_i hg0
        obtain ⟨m, e0, h3⟩ := bind_some h2
        obtain ⟨hh, e1, h4⟩ := bind_some h3
        obtain ⟨ll, e2, h5⟩ := bind_some h4
        obtain ⟨size, hs, h6⟩ := bind_some h5
        cases h6
        have hg : mx.isSome = true → hi.isSome = true := by cases mx <;> cases hi <;> simp_all
        have hif : (if mx.isSome = true then m else n) = m := by
          cases mx with
          | none => simp [boundA] at e0; simp [e0]
          | some _ => simp
        have hmc : m ≤ n := by rcases boundA_le e0 with k | ⟨_, k⟩ <;> omega
        have hno : n < openCap := by
          simp only [Bool.or_eq_true, not_or, decide_eq_true_eq] at hn
          omega
        have hb := run_bounds (P := P) (isSlice := false) (cap := n) hlo hhi hmx e0 e1 e2 (Nat.le_refl _) hg w
        rw [hif] at hb
        have hhm : hh ≤ m := by
          rcases boundA_le e1 with k | ⟨k, k2⟩
          · exact k
          · subst k
            have : mx = none := by cases mx <;> simp_all
            subst this
            simp [boundA] at e0
            omega
        refine ⟨_, ?_, VR.sliced hno hmc hhm (.inr ha)⟩
        simp only [Instr.sliceAt, Sem.run_bind, run_underlying hd, Result.andThen_ok, Instr.slice, asAddr, run_underlying hd2, hb, run_sizeOf hs, Sem.run_pure]
      | _ => cases h2
    | _ => cases h1
  | _ => cases h1
end
end Go.Am
namespace Go.Am
open Go.RowKit
section
variable {P : Program} {β : Ren} {H : Heap} {X : XF} {base : Nat} {w : World}
theorem run_intOpA {op : BinOp} {k : IntKind} {x y : Int} {r : Value} (h : intOpA op k x y = some r) (t : TypeId) (w : World) :
    (binOp op t (.int k x) (.int k y)).run P w = .ok r w ∧ VR β r r := by
  unfold intOpA at h
  cases op with
  | quo =>
    simp only at h
    split at h
    · cases h
    · rename_i hy; cases h; exact ⟨by simp [binOp_quo, Op.intDiv, hy], .int _ _⟩
  | rem =>
    simp only at h
    split at h
    · cases h
    · rename_i hy; cases h; exact ⟨by simp [binOp_rem, Op.intDiv, hy], .int _ _⟩
  | add => cases h; exact ⟨by simp [binOp_add, Op.intArith], .int _ _⟩
  | sub => cases h; exact ⟨by simp [binOp_sub, Op.intArith], .int _ _⟩
  | mul => cases h; exact ⟨by simp [binOp_mul, Op.intArith], .int _ _⟩
  | eql => cases h; exact ⟨by simp [binOp_eql], .bool _⟩
  | neq => cases h; exact ⟨by simp [binOp_neq], .bool _⟩
  | lss => cases h; exact ⟨by simp [binOp_lss], .bool _⟩
  | leq => cases h; exact ⟨by simp [binOp_leq], .bool _⟩
  | gtr => cases h; exact ⟨by simp [binOp_gtr], .bool _⟩
  | geq => cases h; exact ⟨by simp [binOp_geq], .bool _⟩
  | _ => cases h
theorem run_leafEqA {t : TypeId} {x y x' y' : Value} {b : Bool} (h : leafEqA (P.underlying t) x y = some b) (hx : VR β x x') (hy : VR β y y') (d : Nat) (w : World) :
    (Op.equalIn (d + 1) t x' y').run P w = .ok b w ∧ aggA P t = some false := by
  unfold leafEqA at h
  split at h
  · rename_i q k n k' n' hu
    cases hx; cases hy
    split at h
    case isFalse => cases h
    rename_i hk
    subst hk
    cases h
    exact ⟨run_equalIn_int w d t k q n n' hu, by simp [aggA, hu]⟩
  · rename_i p q hu
    cases hx; cases hy
    cases h
    exact ⟨run_equalIn_bool w d t p q hu, by simp [aggA, hu]⟩
  · rename_i p q hu
    cases hx; cases hy
    cases h
    exact ⟨by rw [run_equalIn_string w d t p q hu, beq_toListBytes], by simp [aggA, hu]⟩
  · cases h
theorem run_eqFieldsA (d : Nat) (x x' y y' : Array Value) (w : World) : ∀ (fs : List Field) (k : Nat) (cs ds : List Value) (b : Bool), x.toList.drop k = cs → y.toList.drop k = ds →
    (fs.zipIdx k).all (fun (f, i) => plainField i f) = true → LR β x.toList x'.toList → LR β y.toList y'.toList → eqFieldsA P fs cs ds = some b →
    (Op.eqFields (d + 1) x' y' fs).run P w = .ok b w
  | [], k, cs, ds, b, hcs, hds, _, _, _, h => by
    cases cs <;> cases ds <;> simp [eqFieldsA] at h
    subst h
    simp [Op.eqFields]
  | f :: fs, k, cs, ds, b, hcs, hds, hp, hx, hy, h => by
    cases cs with
    | nil => simp [eqFieldsA] at h
    | cons c cs =>
      cases ds with
      | nil => simp [eqFieldsA] at h
      | cons e ds =>
        simp only [List.zipIdx_cons, List.all_cons, Bool.and_eq_true] at hp
        obtain ⟨hf, hp'⟩ := hp
        simp only [plainField, Bool.and_eq_true, beq_iff_eq, bne_iff_ne] at hf
        obtain ⟨hoff, hname⟩ := hf
        have hxk : x.toList[k]? = some c := by
          have : (x.toList.drop k)[0]? = some c := by rw [hcs]; rfl
          simpa [List.getElem?_drop] using this
        have hyk : y.toList[k]? = some e := by
          have : (y.toList.drop k)[0]? = some e := by rw [hds]; rfl
          simpa [List.getElem?_drop] using this
        obtain ⟨c', hc', rc⟩ := hx.get hxk
        obtain ⟨e', he', re⟩ := hy.get hyk
        have hxc : x'[k]? = some c' := by simpa using hc'
        have hye : y'[k]? = some e' := by simpa using he'
        have hcs' : x.toList.drop (k + 1) = cs := by rw [← List.drop_drop, hcs]; rfl
        have hds' : y.toList.drop (k + 1) = ds := by rw [← List.drop_drop, hds]; rfl
        simp only [eqFieldsA] at h
        cases hl : leafEqA (P.underlying f.type) c e with
        | none => rw [hl] at h; cases h
        | some r =>
          obtain ⟨hrun, hagg⟩ := run_leafEqA hl rc re d w
          have p1 : (part f.type x' f.offset).run P w = .ok c' w := by simp [part, run_isAgg hagg, hoff, hxc]
          have p2 : (part f.type y' f.offset).run P w = .ok e' w := by simp [part, run_isAgg hagg, hoff, hye]
          simp only [Op.eqFields, hname, ne_eq, not_false_eq_true, if_true, Sem.run_bind, p1, p2, Result.andThen_ok, hrun]
          rw [hl] at h
          cases r with
          | true => simpa using run_eqFieldsA d x x' y y' w fs (k + 1) cs ds b hcs' hds' hp' hx hy h
          | false => cases h; simp
set_option maxHeartbeats 2000000 in
theorem run_equalInA {t : TypeId} {x y x' y' : Value} {b : Bool} (h : equalA P t x y = some b) (hx : VR β x x') (hy : VR β y y') (n : Nat) (w : World) :
    (Op.equalIn (n + 2) t x' y').run P w = .ok b w := by
  unfold equalA at h
  obtain ⟨d, hd, h1⟩ := bind_some h
  split at h1
  · cases hx; cases hy; cases h1; exact run_equalIn_bool w (n + 1) t _ _ hd
  · cases hx; cases hy; cases h1; simp [Op.equalIn, run_underlying hd]
  · cases hx; cases hy <;> (cases h1; simp [Op.equalIn, run_underlying hd])
  · cases hx; cases hy; cases h1; simp [Op.equalIn, run_underlying hd]
  · cases hx; cases hy; cases h1; simp [Op.equalIn, run_underlying hd]
  · cases hx; cases hy; cases h1; simp [Op.equalIn, run_underlying hd]
  · cases hx; cases hy; cases h1; simp [Op.equalIn, run_underlying hd]
  · cases hx; cases hy <;> (cases h1; simp [Op.equalIn, run_underlying hd])
  · cases hx <;> (cases hy; cases h1; simp [Op.equalIn, run_underlying hd])
  · cases hx; cases hy; cases h1; simp [Op.equalIn, run_underlying hd]
  · cases hx; cases hy; cases h1; simp [Op.equalIn, run_underlying hd]
  · cases hx; cases hy; cases h1; simp [Op.equalIn, run_underlying hd]
  · rename_i fs xs ys
    cases hx with
    | agg hxs kx =>
      cases hy with
      | agg hys ky =>
        split at h1
        case isFalse => cases h1
        rename_i hp
        simp only [plainStruct, hd, Bool.and_eq_true, Bool.not_eq_true'] at hp
        obtain ⟨⟨hp1, _⟩, hp2⟩ := hp
        have hfo : P.fieldsOf t = fs := by simp [Program.fieldsOf, hd]
        rw [run_equalIn_struct w (n + 1) t _ _ (by rw [hfo]; exact hd) hp1, hfo]
        exact run_eqFieldsA n _ _ _ _ w fs.toList 0 _ _ b rfl rfl hp2 (LR.ofA hxs kx) (LR.ofA hys ky) h1
  · cases h1
theorem run_equalA {t : TypeId} {x y x' y' : Value} {b : Bool} (h : equalA P t x y = some b) (hx : VR β x x') (hy : VR β y y') (w : World) :
    (Op.equal t x' y').run P w = .ok b w := run_equalInA h hx hy 9998 w
theorem run_eqGuardA {op : BinOp} {t : TypeId} {x y : Operand} {a b a' b' : Value} (h : eqGuardA op x y a b = true) (ha : VR β a a') (hb : VR β b b')
    (hg : ∀ xs ys, a = .agg xs → b = .agg ys → P.eqGuardType P.depth t = false) (w : World) : (eqGuard op t x y a' b').run P w = .ok () w := by
  cases ha with
  | agg hx kx =>
    cases hb with
    | agg hy ky => exact run_eqGuard_agg w op t x y _ _ (hg _ _ rfl rfl)
    | _ => cases op <;> rfl
  | nili =>
    cases hb with
    | nili =>
      cases op <;> first
        | rfl
        | (cases x <;> cases y <;> first | rfl | (simp [eqGuardA, isConstA] at h))
    | _ => cases op <;> rfl
  | _ => cases op <;> rfl
theorem run_binA {op : BinOp} {t : TypeId} {x y : Operand} {a b a' b' r : Value} (h : binA P op t a b = some r) (hg : eqGuardA op x y a b = true) (ha : VR β a a') (hb : VR β b b') (w : World) :
    (do eqGuard op t x y a' b'; binOp op t a' b').run P w = .ok r w ∧ VR β r r := by
  have hag : ∀ xs ys, a = .agg xs → b = .agg ys → P.eqGuardType P.depth t = false := by
    intro xs ys ea eb
    subst ea eb
    have hq : ∀ q, equalA P t (.agg xs) (.agg ys) = some q → P.eqGuardType P.depth t = false := by
      intro q hq
      unfold equalA at hq
      obtain ⟨d, hd, h1⟩ := bind_some hq
      cases d with
      | struct fs =>
        simp only at h1
        split at h1
        · rename_i hp
          simp only [plainStruct, hd, Bool.and_eq_true, Bool.not_eq_true'] at hp
          exact hp.1.2
        · cases h1
      | _ => cases h1
    cases op with
    | eql => obtain ⟨q, e, _⟩ := map_some (x := equalA P t (.agg xs) (.agg ys)) h; exact hq q e
    | neq => obtain ⟨q, e, _⟩ := map_some (x := equalA P t (.agg xs) (.agg ys)) h; exact hq q e
    | _ => simp [binA] at h
  rw [Sem.run_bind, run_eqGuardA hg ha hb hag, Result.andThen_ok]
  unfold binA at h
  split at h
  · cases h
  · cases h
  · cases ha; cases hb
    split at h
    case isFalse => cases h
    rename_i hk
    subst hk
    exact run_intOpA h t w
  · rename_i hni
    obtain ⟨q, e, rfl⟩ := map_some h
    have hq := run_equalA e ha hb w
    refine ⟨?_, .bool _⟩
    cases ha with
    | string s =>
      cases hb with
      | string s' =>
        unfold equalA at e
        obtain ⟨d, hd, h1⟩ := bind_some e
        cases d <;> first | (cases h1; show (Op.stringOp .eql s s').run P w = _; simp [Op.stringOp, beq_toListBytes]; done) | cases h1
      | _ => simp [binOp, hq]
    | int k n =>
      unfold equalA at e
      obtain ⟨d, hd, h1⟩ := bind_some e
      cases d <;> cases h1
    | float k n =>
      unfold equalA at e
      obtain ⟨d, hd, h1⟩ := bind_some e
      cases d <;> cases h1
    | _ => simp [binOp, hq]
  · obtain ⟨q, e, rfl⟩ := map_some h
    have hq := run_equalA e ha hb w
    refine ⟨?_, .bool _⟩
    cases ha with
    | string s =>
      cases hb with
      | string s' =>
        unfold equalA at e
        obtain ⟨d, hd, h1⟩ := bind_some e
        cases d <;> first | (cases h1; show (Op.stringOp .neq s s').run P w = _; simp [Op.stringOp, beq_toListBytes]; done) | cases h1
      | _ => simp [binOp, hq]
    | int k n =>
      unfold equalA at e
      obtain ⟨d, hd, h1⟩ := bind_some e
      cases d <;> cases h1
    | float k n =>
      unfold equalA at e
      obtain ⟨d, hd, h1⟩ := bind_some e
      cases d <;> cases h1
    | _ => simp [binOp, hq]
  · cases h
end
end Go.Am
namespace Go.Am
open Go.RowKit
section
variable {P : Program} {β : Ren} {H : Heap} {X : XF} {base : Nat} {w : World}
theorem run_lengthA {x x' : Value} {n : Nat} (h : lengthA x = some n) (hx : VR β x x') (w : World) : (Builtin.lenOf x').run P w = .ok n w := by
  unfold lengthA at h
  cases hx <;> simp at h <;> subst h <;> simp [Builtin.lenOf]
theorem LR.self {l : List Value} (h : ∀ u, u ∈ l → VR β u u) : LR β l l :=
  ⟨rfl, fun i u u' hu hu' => by rw [hu] at hu'; cases hu'; exact h u (List.mem_of_getElem? hu)⟩
theorem run_firstA (hr : HR β H X base w) {size n : Nat} {x x' : Value} {news : List Value} (h : firstA H size n x = some news) (hx : VR β x x')
    (hn : ∀ a l c, x = .slice a l c → n ≤ l) (hs : ∀ s, x = .string s → n ≤ s.size) :
    ∃ news', (Builtin.firstCells size n x').run P w = .ok news'.toArray w ∧ LR β news news' ∧ news.length = n * size := by
  cases hx with
  | nils l c hc =>
    simp only [firstA] at h
    split at h
    case isFalse => cases h
    rename_i h0
    cases h
    subst h0
    exact ⟨[], by simp [Builtin.firstCells], .nil β, by simp⟩
  | sl l c hc hl ha =>
    simp only [firstA] at h
    split at h
    · rename_i h0
      cases h
      subst h0
      exact ⟨[], by simp [Builtin.firstCells, loadCells, loadCellsFrom], .nil β, by simp⟩
    · split at h
      · cases h
      rename_i hc0
      obtain ⟨l', e, r⟩ := run_loads (P := P) hr h (ha.resolve_left hc0)
      refine ⟨l', by simp [Builtin.firstCells, e], r, ?_⟩
      obtain ⟨_, x, _, hle, rfl⟩ := loads_some h
      simp; omega
  | op l c hl hs0 hu ha =>
    rename_i a a'
    simp only [firstA] at h
    split at h
    · rename_i h0
      cases h
      subst h0
      exact ⟨[], by simp [Builtin.firstCells, loadCells, loadCellsFrom], .nil β, by simp⟩
    · rename_i hn0
      split at h
      · cases h
      have hnl := hn _ _ _ rfl
      have hA : AR β a a' := ⟨hs0, hu, fun T hT => (ha T hT).2.2.resolve_left (by omega)⟩
      obtain ⟨l', e, r⟩ := run_loads (P := P) hr h hA
      refine ⟨l', by simp [Builtin.firstCells, e], r, ?_⟩
      obtain ⟨_, x, _, hle, rfl⟩ := loads_some h
      simp; omega
  | string s =>
    simp only [firstA] at h
    split at h
    case isFalse => cases h
    rename_i h1
    cases h
    subst h1
    refine ⟨((s.extract 0 n).data.toList.map fun b => .int .u8 b.toNat), ?_, ?_, ?_⟩
    · show Result.ok ((s.extract 0 n).data.map fun b => Value.int .u8 b.toNat) w = _
      congr 1
      apply Array.ext'
      simp
    · refine LR.self fun u hu => ?_
      obtain ⟨b, _, rfl⟩ := List.mem_map.1 hu
      exact .int _ _
    · have := hs s rfl
      rw [List.length_map, Array.length_toList, ByteArray.size_data, ByteArray.size_extract]
      omega
  | _ => simp [firstA] at h
set_option maxHeartbeats 4000000 in
theorem run_append_fits {ts : Array TypeId} {sT xT elem ty : TypeId} {d2 : TypeDesc} {i : TypeInfo} {b' : Option Addr} {len cap n : Nat} {x' : Value} {news : List Value}
    (h0 : ts[0]? = some sT) (h1 : ts[1]? = some xT) (hs : P.underlying sT = some (.slice elem)) (hx : P.underlying xT = some d2) (hd : ∀ k, d2 ≠ .int k) (hi : P.info? elem = some i)
    (hl : ∀ w, (Builtin.lenOf x').run P w = .ok n w) (hf : (Builtin.firstCells i.size n x').run P w = .ok news.toArray w) (hle : len + n ≤ cap) :
    (Builtin.append_ ts ty #[.slice b' len cap, x']).run P w =
      match b' with
      | some a => ((storeCells (a.add (len * i.size)) news).run P w).andThen fun _ w => .ok (.slice b' (len + n) cap) w
      | none => .ok (.slice b' (len + n) cap) w := by
  have hsz : ∀ w, (sizeOf elem).run P w = .ok i.size w := run_sizeOf (show szA P elem = some i.size by simp [szA, hi])
  have e0 : (#[Value.slice b' len cap, x'] : Array Value)[0]? = some (Value.slice b' len cap) := rfl
  have e1 : (#[Value.slice b' len cap, x'] : Array Value)[1]? = some x' := rfl
  unfold Builtin.append_
  rw [h0, h1, e0, e1]
  simp only [Sem.run_bind, run_underlying hs, run_underlying hx, Result.andThen_ok, hsz, Sem.run_pure]
  cases d2
  case int => exact absurd rfl (hd _)
  all_goals
    simp only [Bool.false_eq_true, if_false, hl, Sem.run_bind, Result.andThen_ok, hle, if_true, Bool.not_false, hf]
    cases b' <;> simp only [Sem.run_bind, Sem.run_pure]
set_option maxHeartbeats 4000000 in
theorem run_append_grows {ts : Array TypeId} {sT xT elem ty : TypeId} {d2 : TypeDesc} {i : TypeInfo} {z : Value} {b' : Option Addr} {len cap n : Nat} {x' : Value} {news olds : List Value}
    (h0 : ts[0]? = some sT) (h1 : ts[1]? = some xT) (hs : P.underlying sT = some (.slice elem)) (hx : P.underlying xT = some d2) (hd : ∀ k, d2 ≠ .int k) (hi : P.info? elem = some i) (hz : i.zero = some z)
    (hl : ∀ w, (Builtin.lenOf x').run P w = .ok n w) (hf : (Builtin.firstCells i.size n x').run P w.drew = .ok news.toArray w.drew)
    (ho : (Builtin.firstCells i.size len (.slice b' len cap)).run P w.drew = .ok olds.toArray w.drew) (hle : ¬ len + n ≤ cap)
    (hb : 4 * (len + n) * i.bytes + 4096 ≤ 2 ^ 47) (hn : len + n ≤ 2 ^ 47) :
    (Builtin.append_ ts ty #[.slice b' len cap, x']).run P w =
      .ok (.slice (some ⟨w.heap.size, 0, none⟩) (len + n) (grownCap w (len + n) cap elem))
        (w.drew.alloc (.cells (olds.toArray ++ news.toArray ++ Builtin.zeroCells z.cells (grownCap w (len + n) cap elem - (len + n))) elem)) := by
  have hsz : ∀ w, (sizeOf elem).run P w = .ok i.size w := run_sizeOf (show szA P elem = some i.size by simp [szA, hi])
  have hti : ∀ w, (typeInfo elem).run P w = .ok i w := run_typeInfo hi
  have hzv : ∀ w, (zeroValue elem).run P w = .ok z w := fun w => by simp [zeroValue, hti, hz]
  have e0 : (#[Value.slice b' len cap, x'] : Array Value)[0]? = some (Value.slice b' len cap) := rfl
  have e1 : (#[Value.slice b' len cap, x'] : Array Value)[1]? = some x' := rfl
  have g1 : ¬ (((len + n : Nat) : Int) > IntKind.i64.max ∧ (False ∨ i.bytes = 0)) := by
    rw [IntKind.max_i64]; omega
  have g2 : ¬ (Builtin.nextslicecap (len + n) cap * i.bytes > 2 ^ 48) := by
    have := growslice_fits (need := len + n) (old := cap) (bytes := i.bytes) (by omega) (by
      have : (len + n) * i.bytes ≤ 4 * (len + n) * i.bytes := Nat.mul_le_mul_right _ (by omega)
      omega)
    omega
  have hch : (choose (Question.appendCap (len + n) cap elem)).run P w = .ok (grownCap w (len + n) cap elem) w.drew := by
    simp [Question.forced, grownCap]
  unfold Builtin.append_
  rw [h0, h1, e0, e1]
  simp only [Sem.run_bind, run_underlying hs, run_underlying hx, Result.andThen_ok, hsz, Sem.run_pure]
  cases d2
  case int => exact absurd rfl (hd _)
  all_goals
    simp only [Bool.false_eq_true, if_false, hl, Sem.run_bind, Result.andThen_ok, hle, hti, g1, g2, hch, run_askRoom, ho, Bool.not_false, if_true, hf, hzv, newRow, run_newObj, Sem.run_pure, World.size_drew]
    rfl
theorem grownCap_size (need old : Nat) (e : TypeId) (w : World) : need ≤ grownCap w need old e := grownCap_ge w need old e
theorem appendA_sound (hr : HR β H X base w) {ts : Array TypeId} {sT xT ty : TypeId} {s x s' x' v : Value} {H' : Heap} (h0 : ts[0]? = some sT) (h1 : ts[1]? = some xT)
    (h : appendA P H sT xT s x = some (v, H')) (hs : VR β s s') (hx : VR β x x') :
    ∃ β' v' w', (Builtin.append_ ts ty #[s', x']).run P w = .ok v' w' ∧ Le β β' ∧ VR β' v v' ∧ HR β' H' X base w' ∧ Below base w w' := by
  unfold appendA at h
  obtain ⟨d1, hd1, k1⟩ := bind_some h
  obtain ⟨d2, hd2, k2⟩ := bind_some k1
  have hint : ∀ k, d2 ≠ .int k := by
    intro k e
    subst e
    cases d1 <;> first | (cases k2; done) | (cases s <;> cases k2)
  have k3 : ∃ elem b len cap, d1 = .slice elem ∧ s = .slice b len cap := by
    cases d1 with
    | slice elem => cases s with
      | slice b len cap => exact ⟨elem, b, len, cap, rfl, rfl⟩
      | _ => cases d2 <;> cases k2
    | _ => cases d2 <;> first | (cases k2; done) | (cases s <;> cases k2)
  obtain ⟨elem, b, len, cap, rfl, rfl⟩ := k3
  have k4 : (do
    let i ← P.info? elem
    let size := i.size
    let z ← zeroA P elem
    if size = 0 || z.cells.size ≠ size then none else
    let n ← lengthA x
    let need := len + n
    let news ← firstA H size n x
    if cap ≠ openCap then
      if need ≤ cap then
        match b with
        | none => if n = 0 then some (Value.slice none need cap, H) else none
        | some a => if n = 0 then some (.slice (some a) need cap, H) else (H.stores ⟨a.block, a.off + len * size, a.spot⟩ news).map fun H => (.slice (some a) need cap, H)
      else
        if 4 * need * i.bytes + 4096 > 2 ^ 47 || need > 2 ^ 47 then none else
        let olds ← firstA H size len (.slice b len cap)
        some (.slice (some ⟨H.next, 0, none⟩) need openCap, H.alloc ⟨elem, size, true, olds ++ news⟩)
    else
      match b with
      | none => none
      | some a =>
        if a.spot.isSome || a.block < base0 then none else
        let x ← H.get a.block
        if x.es ≠ size || !x.opn then none else
        if n = 0 then some (.slice (some a) need cap, H)
        else if a.off + need * size ≤ x.cells.length then (H.stores ⟨a.block, a.off + len * size, none⟩ news).map fun H => (.slice (some a) need cap, H)
        else if a.off + len * size ≠ x.cells.length || !news.all Heap.oneC then none
        else if 4 * need * i.bytes + 4096 > 2 ^ 47 || need > 2 ^ 47 then none
        else some (.slice (some ⟨H.next, 0, none⟩) need openCap, (H.del a.block).alloc ⟨elem, size, true, x.cells.drop a.off ++ news⟩)) = some (v, H') := by
    cases d2 <;> first | exact absurd rfl (hint _) | exact k2
  clear k1 k2 h
  obtain ⟨i, hi, k5⟩ := bind_some k4
  obtain ⟨z, hz, k6⟩ := bind_some k5
  clear k4 k5
  split at k6
  · cases k6
  rename_i hsz0
  obtain ⟨n, hn, k7⟩ := bind_some k6
  obtain ⟨news, hnews, k8⟩ := bind_some k7
  clear k6 k7
  have hsize : i.size ≠ 0 := by intro e; simp [e] at hsz0
  have hlen := fun w => run_lengthA (P := P) hn hx w
  have hzi : i.zero = some z := by
    unfold zeroA at hz
    obtain ⟨z', hz', k⟩ := bind_some hz
    rw [hi] at hz'
    split at k
    · cases k; exact hz'
    · cases k
  have hnb : (∀ a l c, x = .slice a l c → n ≤ l) ∧ (∀ s, x = .string s → n ≤ s.size) := by
    constructor
    · intro a l c e; subst e; simp [lengthA] at hn; omega
    · intro s e; subst e; simp [lengthA] at hn; omega
  obtain ⟨news', en, rn, ln⟩ := run_firstA (P := P) hr hnews hx hnb.1 hnb.2
  obtain ⟨news2, en2, rn2, _⟩ := run_firstA (P := P) hr.drew hnews hx hnb.1 hnb.2
  have hgrow : ∀ (b' : Option Addr) (c' : Nat) (olds olds' : List Value) (H1 : Heap) (β1 : Ren), s' = .slice b' len c' →
      (Builtin.firstCells i.size len (.slice b' len c')).run P w.drew = .ok olds'.toArray w.drew → LR β olds olds' → olds.length = len * i.size → ¬ len + n ≤ c' →
      4 * (len + n) * i.bytes + 4096 ≤ 2 ^ 47 → len + n ≤ 2 ^ 47 → Le β β1 → HR β1 H1 X base w → H1.next = H.next →
      ∃ β' v' w', (Builtin.append_ ts ty #[s', x']).run P w = .ok v' w' ∧ Le β β' ∧ VR β' (.slice (some ⟨H.next, 0, none⟩) (len + n) openCap) v' ∧
        HR β' (H1.alloc ⟨elem, i.size, true, olds ++ news⟩) X base w' ∧ Below base w w' := by
    intro b' c' olds olds' H1 β1 es eo ro lo hle hb1 hb2 hle1 hr1 hnx
    subst es
    have hrun := run_append_grows (ty := ty) (w := w) h0 h1 hd1 hd2 hint hi hzi hlen en2 eo hle hb1 hb2
    have hcap := grownCap_size (len + n) c' elem w
    have hun : β1 H.next = .un := hr1.fresh _ (by omega)
    have hXn : X H.next = none := hr.xnext (Nat.le_refl _)
    have hzs : z.cells.size = i.size := by simp at hsz0; exact hsz0.2
    have hnl : news2.length = n * i.size := by rw [← rn2.1]; exact ln
    have hol : olds'.length = len * i.size := by rw [← ro.1]; exact lo
    have hCs : (olds'.toArray ++ news2.toArray ++ Builtin.zeroCells z.cells (grownCap w (len + n) c' elem - (len + n))).size = grownCap w (len + n) c' elem * i.size := by
      simp [size_zeroCells, hzs, hnl, hol]
      rw [← Nat.add_mul, ← Nat.add_mul]
      congr 1
      omega
    have hgA : ∀ j, (H1.alloc ⟨elem, i.size, true, olds ++ news⟩).get j = if j = H.next then some ⟨elem, i.size, true, olds ++ news⟩ else H1.get j := fun j => by rw [Heap.get_alloc hr1.next, hnx]
    have hadd := hr1.drew.add (H' := H1.alloc ⟨elem, i.size, true, olds ++ news⟩) (X' := X) H.next ⟨elem, i.size, true, olds ++ news⟩ (olds'.toArray ++ news2.toArray ++ Builtin.zeroCells z.cells (grownCap w (len + n) c' elem - (len + n))) elem
      hr.next hun (by simp [hnx]) (by simp) (getX_new hgA) (hr1.dnew (by simp) hgA hXn) (fun j hj => ⟨(by intro e; subst e; rw [hXn] at hj; cases hj), hj⟩) (by
        rw [hCs]
        simp [lo, ln]
        rw [← Nat.add_mul]
        exact Nat.mul_le_mul_right _ hcap) (by
        have e : ((olds'.toArray ++ news2.toArray ++ Builtin.zeroCells z.cells (grownCap w (len + n) c' elem - (len + n))).toList.take (olds ++ news).length) = olds' ++ news2 := by
          have hl2 : (olds ++ news).length = (olds' ++ news2).length := by simp [ro.1, rn2.1]
          rw [hl2]
          simp only [Array.toList_append]
          exact List.take_left' rfl
        rw [e]
        exact (ro.mono hle1).append (rn2.mono hle1))
    refine ⟨_, _, _, hrun, hle1.trans hadd.1, ?_, hadd.2, ?_⟩
    · refine .op _ _ hcap rfl (by simp) fun T hT => ?_
      simp only [upd_self, Stat.live.injEq] at hT
      subst hT
      refine ⟨rfl, ?_, .inr rfl⟩
      simp only [hCs]
      omega
    · exact ((Below.refl base w).drew).alloc (by have := hr.sz; simpa using this) _
  by_cases hc : cap = openCap
  · -- an open one
    subst hc
    simp only [ne_eq, not_true_eq_false, if_false] at k8
    cases b with
    | none => cases k8
    | some a =>
      simp only at k8
      split at k8
      · cases k8
      rename_i hab
      have hsp : a.spot = none := by
        cases h : a.spot <;> simp_all
      have hb0 : base0 ≤ a.block := by
        simp only [Bool.or_eq_true, not_or, decide_eq_true_eq] at hab
        omega
      obtain ⟨y, hy, k9⟩ := bind_some k8
      split at k9
      · cases k9
      rename_i hyo
      have hye : y.es = i.size ∧ y.opn = true := by
        simp only [Bool.or_eq_true, not_or, decide_eq_true_eq, Decidable.not_not, Bool.not_eq_true', Bool.not_eq_false] at hyo
        exact hyo
      obtain ⟨T, hT, hB, hbb⟩ := hr.mem hy
      rw [if_pos hb0] at hbb
      have hTes : T.es = i.size := by rw [hB.es, hye.1]
      have hTn := hB.n
      have hTle := hB.le
      cases hs with
      | sl l c hc hl ha => exact absurd hc (Nat.lt_irrefl _)
      | op l c hl hs0 hu ha =>
        rename_i a'
        obtain ⟨hopn, hcap, hadr⟩ := ha T hT
        rw [hTes] at hcap
        split at k9
        · -- nothing to append
          rename_i hn0
          cases k9
          subst hn0
          refine ⟨β, .slice (some a') (len + 0) c, w, ?_, Le.refl β, ?_, hr, Below.refl _ _⟩
          · have hnil : news' = [] := List.length_eq_zero_iff.1 (by rw [← rn.1, ln]; simp)
            rw [run_append_fits h0 h1 hd1 hd2 hint hi hlen en (by omega), hnil]
            simp [storeCells]
          · exact .op _ _ (by omega) hs0 hu fun U hU => by rw [hT] at hU; cases hU; exact ⟨hopn, by rw [hTes]; exact hcap, hadr⟩
        rename_i hn0
        split at k9
        · -- over cells that are there
          rename_i hin
          obtain ⟨H2, hst, e2⟩ := map_some k9
          cases e2
          have hneed : len + n ≤ c := by
            have : (len + n) * i.size ≤ c * i.size := by omega
            exact Nat.le_of_mul_le_mul_right this (by omega)
          have ea : a' = ⟨T.b, T.p + a.off, none⟩ := hadr.resolve_left (by omega)
          obtain ⟨w', e3, r3, b3, _⟩ := run_stores (P := P) hr hst (a' := a'.add (len * i.size)) ⟨rfl, hu, fun U hU => by rw [hT] at hU; cases hU; rw [ea, Addr.add_lit, Nat.add_assoc]⟩ rn
          refine ⟨β, .slice (some a') (len + n) c, w', ?_, Le.refl β, ?_, r3, b3⟩
          · rw [run_append_fits h0 h1 hd1 hd2 hint hi hlen en hneed]
            simp [e3]
          · exact .op _ _ hneed hs0 hu fun U hU => by rw [hT] at hU; cases hU; exact ⟨hopn, by rw [hTes]; exact hcap, hadr⟩
        split at k9
        · cases k9
        rename_i hend
        have hend' : a.off + len * i.size = y.cells.length ∧ news.all Heap.oneC = true := by
          simp only [Bool.or_eq_true, not_or, decide_eq_true_eq, Decidable.not_not, Bool.not_eq_true', Bool.not_eq_false] at hend
          exact hend
        obtain ⟨hend', hone⟩ := hend'
        split at k9
        · cases k9
        rename_i hbd
        have hbd' : 4 * (len + n) * i.bytes + 4096 ≤ 2 ^ 47 ∧ len + n ≤ 2 ^ 47 := by
          simp only [Bool.or_eq_true, not_or, decide_eq_true_eq] at hbd
          omega
        cases k9
        have hnx : a.block < H.next := by
          rcases Nat.lt_or_ge a.block H.next with k | k
          · exact k
          · have := hr.fresh _ k; rw [hT] at this; cases this
        have hXa : X a.block = none := by
          cases hX : X a.block with
          | none => rfl
          | some q => have := hr.disj _ _ hX; rw [hy] at this; cases this
        have hkill := hr.kill (H' := H.del a.block) a.block hb0 hnx hXa (by simp) (fun j => Heap.get_del hb0)
        have hdl : (y.cells.drop a.off).length = len * i.size := by simp; omega
        by_cases hneed : len + n ≤ c
        · -- the row has room
          have ea : a' = ⟨T.b, T.p + a.off, none⟩ := hadr.resolve_left (by omega)
          obtain ⟨C, cty, fz, o1, o2, o3, o4⟩ := hB.obj
          have ofz : fz = (0, 0) := o3 hb0
          subst ofz
          have hall : ∀ v ∈ news', v.oneCell' = true := by
            intro u hu'
            obtain ⟨j, hj, rfl⟩ := List.getElem_of_mem hu'
            have hj0 : j < news.length := by have := rn.1; omega
            have hrj := rn.2 j news[j] news'[j] (by simp [hj0]) (by simp [hj])
            exact hrj.oneC (List.all_eq_true.1 hone _ (List.getElem_mem hj0))
          have hnl : news'.length = n * i.size := by rw [← rn.1]; exact ln
          have hfit : T.p + y.cells.length + n * i.size ≤ C.size := by
            have : (len + n) * i.size ≤ c * i.size := Nat.mul_le_mul_right _ hneed
            rw [Nat.add_mul] at this
            omega
          have hst := run_storeCells_at (P := P) T.b (T.p + y.cells.length) cty news' 0 C w o1 (by omega) hall
          have ead : a'.add (len * i.size) = ⟨T.b, T.p + y.cells.length, none⟩ := by rw [ea, Addr.add_lit]; congr 1; omega
          rw [← ead] at hst
          simp only [Nat.add_zero] at hst
          have hfree : ∀ j U, upd β a.block .dead j = .live U → U.b ≠ T.b := by
            intro j U hU hb
            by_cases e : j = a.block
            · subst e; rw [upd_self] at hU; cases hU
            · rw [upd_ne _ _ e] at hU
              by_cases hj : base0 ≤ j
              · exact e (hr.inj j a.block U T hj hb0 hU hT hb)
              · obtain ⟨q, hq⟩ := hr.live j U hU
                obtain ⟨U', u1, _, u3⟩ := hr.blk j q hq
                rw [hU] at u1
                cases u1
                rw [if_neg hj] at u3
                omega
          have hkw := hkill.world (w' := w.setRow T.b (C.toList.take (T.p + y.cells.length) ++ news' ++ C.toList.drop (T.p + y.cells.length + news'.length)).toArray)
            (fun j U hU => setRow_other w T.b U.b _ (hfree j U hU)) (by simp)
          have hXn : X H.next = none := hr.xnext (Nat.le_refl _)
          have hun : upd β a.block .dead H.next = .un := hkill.fresh _ (by simp)
          have hCs : (C.toList.take (T.p + y.cells.length) ++ news' ++ C.toList.drop (T.p + y.cells.length + news'.length)).toArray.size = T.m := by simp; omega
          obtain ⟨hle2, hr2⟩ := hkw.reuse (H' := (H.del a.block).alloc ⟨elem, i.size, true, y.cells.drop a.off ++ news⟩) H.next ⟨elem, i.size, true, y.cells.drop a.off ++ news⟩
            ⟨T.b, T.p + a.off, (y.cells.drop a.off ++ news).length, T.m, i.size, true⟩ _ cty hr.next hun (by simp) (by simp)
            (fun j => by rw [Heap.get_alloc (by simpa using hr.next)]; simp) hXn (fun j U _ hU => hfree j U hU) hbb (setRow_heap w T.b C _ cty (0, 0) o1) hCs rfl rfl rfl
            (by simp [ln]; omega) (by
              have e : ((((C.toList.take (T.p + y.cells.length) ++ news' ++ C.toList.drop (T.p + y.cells.length + news'.length)).toArray).toList.drop (T.p + a.off)).take (y.cells.drop a.off ++ news).length)
                  = (((C.toList.drop T.p).take T.n).drop a.off) ++ news' := by
                have hl3 : (y.cells.drop a.off ++ news).length = (((C.toList.drop T.p).take T.n).drop a.off ++ news').length := by simp [rn.1]; omega
                rw [hl3]
                have e1 : (C.toList.take (T.p + y.cells.length) ++ news' ++ C.toList.drop (T.p + y.cells.length + news'.length)).drop (T.p + a.off)
                    = (((C.toList.drop T.p).take T.n).drop a.off ++ news') ++ C.toList.drop (T.p + y.cells.length + news'.length) := by
                  rw [List.append_assoc, List.drop_append_of_le_length (by simp; omega), ← List.append_assoc]
                  congr 2
                  rw [List.drop_take, List.drop_take, List.drop_drop]
                  congr 1
                  omega
                show ((C.toList.take (T.p + y.cells.length) ++ news' ++ C.toList.drop (T.p + y.cells.length + news'.length)).drop (T.p + a.off)).take _ = _
                rw [e1]
                exact List.take_left' rfl
              rw [e]
              exact ((o4.drop a.off).mono (Le.kill _ _)).append (rn.mono (Le.kill _ _)))
          refine ⟨_, .slice (some a') (len + n) c, _, ?_, (Le.kill β a.block).trans hle2, ?_, hr2, below_setRow (Below.refl _ _) hbb _⟩
          · rw [run_append_fits h0 h1 hd1 hd2 hint hi hlen en hneed]
            simp only [hst, Result.andThen_ok]
          · refine .op _ _ hneed rfl (by simp) fun U hU => ?_
            simp only [upd_self, Stat.live.injEq] at hU
            subst hU
            exact ⟨rfl, by simp only; omega, .inr (by simpa using ea)⟩
        · -- it has not
          have hfo : ∃ olds', (Builtin.firstCells i.size len (.slice (some a') len c)).run P w.drew = .ok olds'.toArray w.drew ∧ LR β (y.cells.drop a.off) olds' := by
            by_cases hl0 : len = 0
            · subst hl0
              refine ⟨[], by simp [Builtin.firstCells, loadCells, loadCellsFrom], ?_⟩
              have : y.cells.drop a.off = [] := List.length_eq_zero_iff.1 (by rw [hdl]; simp)
              rw [this]; exact .nil β
            · have hA : AR β a a' := ⟨hs0, hu, fun U hU => by rw [hT] at hU; cases hU; exact hadr.resolve_left (by omega)⟩
              have hld : H.loads a (len * i.size) = some (y.cells.drop a.off) := by
                have e0 : H.loads a (len * i.size) = (H.get a.block >>= fun q => if a.off + len * i.size ≤ q.cells.length then some ((q.cells.drop a.off).take (len * i.size)) else none) := by
                  unfold Heap.loads
                  simp [hsp]
                rw [e0, hy]
                show (if a.off + len * i.size ≤ y.cells.length then some ((y.cells.drop a.off).take (len * i.size)) else none) = _
                rw [if_pos (by omega), List.take_of_length_le (by omega)]
              obtain ⟨l', e, r⟩ := run_loads (P := P) hr.drew hld hA
              exact ⟨l', by simp [Builtin.firstCells, e], r⟩
          obtain ⟨olds', e4, r4⟩ := hfo
          exact hgrow (some a') c _ olds' (H.del a.block) _ rfl e4 r4 hdl hneed hbd'.1 hbd'.2 (Le.kill _ _) hkill (by simp)
  · simp only [ne_eq, hc, not_false_eq_true, if_true] at k8
    have hs2 : ∃ b', s' = .slice b' len cap ∧ cap < openCap ∧ (b = none → b' = none) ∧ (∀ a, b = some a → ∃ a', b' = some a' ∧ len ≤ cap ∧ (cap = 0 ∨ AR β a a')) := by
      cases hs with
      | nils l c hcc => exact ⟨none, rfl, hcc, fun _ => rfl, fun a e => by cases e⟩
      | sl l c hcc hl ha => exact ⟨_, rfl, hcc, fun e => (by cases e), fun a e => by cases e; exact ⟨_, rfl, hl, ha⟩⟩
      | op l c hl hs0 hu ha => exact absurd rfl hc
    obtain ⟨b', rfl, hcc, hbn, hbs⟩ := hs2
    split at k8
    · rename_i hneed
      cases b with
      | none =>
        obtain rfl := hbn rfl
        simp only at k8
        split at k8
        case isFalse => cases k8
        rename_i hn0
        cases k8
        exact ⟨β, _, w, by rw [run_append_fits h0 h1 hd1 hd2 hint hi hlen en hneed], Le.refl β, .nils _ _ hcc, hr, Below.refl _ _⟩
      | some a =>
        obtain ⟨a', rfl, hl, ha⟩ := hbs a rfl
        simp only at k8
        split at k8
        · rename_i hn0
          cases k8
          subst hn0
          have hnil : news' = [] := List.length_eq_zero_iff.1 (by rw [← rn.1, ln]; simp)
          refine ⟨β, .slice (some a') (len + 0) cap, w, ?_, Le.refl β, .sl _ _ hcc (by omega) ha, hr, Below.refl _ _⟩
          rw [run_append_fits h0 h1 hd1 hd2 hint hi hlen en hneed, hnil]
          simp [storeCells]
        · rename_i hn0
          obtain ⟨H2, hst, e2⟩ := map_some k8
          cases e2
          have hA := ha.resolve_left (by omega)
          obtain ⟨w', e3, r3, b3, _⟩ := run_stores (P := P) hr hst (a' := a'.add (len * i.size)) ⟨hA.1, hA.2.1, fun U hU => by rw [hA.2.2 U hU, Addr.add_lit, Nat.add_assoc]⟩ rn
          refine ⟨β, .slice (some a') (len + n) cap, w', ?_, Le.refl β, .sl _ _ hcc hneed ha, r3, b3⟩
          rw [run_append_fits h0 h1 hd1 hd2 hint hi hlen en hneed]
          simp [e3]
    · rename_i hneed
      split at k8
      · cases k8
      rename_i hbd
      have hbd' : 4 * (len + n) * i.bytes + 4096 ≤ 2 ^ 47 ∧ len + n ≤ 2 ^ 47 := by
        simp only [Bool.or_eq_true, not_or, decide_eq_true_eq] at hbd
        omega
      obtain ⟨olds, ho, k9⟩ := bind_some k8
      cases k9
      obtain ⟨olds', e4, r4, l4⟩ := run_firstA (P := P) hr.drew ho hs (fun a l c e => by cases e; omega) (fun s e => by cases e)
      exact hgrow b' cap _ olds' H β rfl e4 r4 l4 hneed hbd'.1 hbd'.2 (Le.refl β) hr rfl
end
end Go.Am
namespace Go.Am
open Go.RowKit
section
variable {P : Program} {β : Ren} {H : Heap} {X : XF} {base : Nat} {w : World}
theorem mapM_rel {ev : Operand → Option Value} {ρ : Operand → Value} (hE : ∀ x v, ev x = some v → VR β v (ρ x)) : ∀ (xs : List Operand) (vs : List Value), xs.mapM ev = some vs → LR β vs (xs.map ρ)
  | [], vs, h => by simp at h; subst h; exact .nil β
  | x :: xs, vs, h => by
    rw [List.mapM_cons] at h
    obtain ⟨v, hv, h1⟩ := bind_some h
    obtain ⟨rest, hr, h2⟩ := bind_some h1
    cases h2
    exact .cons (hE x v hv) (mapM_rel hE xs rest hr)
theorem parts_rel {ev : Operand → Option Value} {ρ : Operand → Value} (hE : ∀ x v, ev x = some v → VR β v (ρ x)) : ∀ (xs : List (Nat × Operand)) (ps : List (Nat × Value)),
    (xs.mapM fun (p : Nat × Operand) => (ev p.2).map (p.1, ·)) = some ps → PR β ps (xs.map fun p => (p.1, ρ p.2))
  | [], ps, h => by simp at h; subst h; exact .nil
  | x :: xs, ps, h => by
    rw [List.mapM_cons] at h
    obtain ⟨v, hv, h1⟩ := bind_some h
    obtain ⟨rest, hr, h2⟩ := bind_some h1
    cases h2
    obtain ⟨u, hu, rfl⟩ := map_some hv
    exact .cons x.1 (hE x.2 u hu) (parts_rel hE xs rest hr)
theorem opt_rel {ev : Operand → Option Value} {ρ : Operand → Value} (hE : ∀ x v, ev x = some v → VR β v (ρ x)) {x : Option Operand} {v : Option Value} (h : x.mapM ev = some v) : OR β v (x.map ρ) := by
  cases x with
  | none => simp at h; subst h; exact trivial
  | some x =>
    have h' : (ev x).map some = some v := by simpa [Option.mapM] using h
    obtain ⟨u, hu, rfl⟩ := map_some h'
    exact hE x u hu
def DR (β : Ren) (d d' : Deferred) : Prop := ∃ f c c', d.target = .fn (.func f) c ∧ d'.target = .fn (.func f) c' ∧ LR β c.toList c'.toList ∧ LR β d.args.toList d'.args.toList
theorem DR.mono {β β' : Ren} {d d' : Deferred} (h : DR β d d') (k : Le β β') : DR β' d d' := by
  obtain ⟨f, c, c', h1, h2, h3, h4⟩ := h
  exact ⟨f, c, c', h1, h2, h3.mono k, h4.mono k⟩
structure New (β : Ren) (H H' : Heap) (X X' : XF) (i : Nat) (x : Blk) : Prop where
  hi : base0 ≤ i
  hu : β i = .un
  hl : i < H'.next
  hn : H.next ≤ H'.next
  hg : ∀ j, getX H' X' j = if j = i then some x else getX H X j
  hd : ∀ j q, X' j = some q → H'.get j = none ∧ j < H'.next
  hres : ∀ j, X' j = some none → j ≠ i ∧ X j = some none
theorem alloc_sound (hr : HR β H X base w) (i : Nat) (H' : Heap) (X' : XF) (x : Blk) (hnew : New β H H' X X' i x) (C : Array Value) (ty : TypeId) (hc : LR β x.cells C.toList) :
    ∃ β', β' i = .live ⟨w.heap.size, 0, x.cells.length, x.cells.length, x.es, x.opn⟩ ∧ Le β β' ∧ HR β' H' X' base (w.alloc (.cells C ty)) ∧ Below base w (w.alloc (.cells C ty)) := by
  have hsz : C.size = x.cells.length := by have := hc.1; simpa using this.symm
  have ha := hr.add (H' := H') (X' := X') i x C ty hnew.hi hnew.hu hnew.hl hnew.hn hnew.hg hnew.hd hnew.hres (by omega) (by
    have e : C.toList.take x.cells.length = C.toList := List.take_of_length_le (by simp; omega)
    rw [e]; exact hc)
  rw [hsz] at ha
  exact ⟨_, upd_self _ _ _, ha.1, ha.2, (Below.refl base w).alloc hr.sz _⟩
theorem AR.fresh {β : Ren} {i b n m es : Nat} {o : Bool} (h : β i = .live ⟨b, 0, n, m, es, o⟩) : AR β ⟨i, 0, none⟩ ⟨b, 0, none⟩ := by
  refine ⟨rfl, ?_, fun T hT => ?_⟩
  · show β i ≠ .un
    rw [h]; intro q; cases q
  · have hT' : β i = .live T := hT
    rw [h] at hT'; cases hT'; rfl
theorem allocA_sound {o : Oper} {a : Act} {ev : Operand → Option Value} (hE : ∀ x v, ev x = some v → VR β v (a.eval x)) (hr : HR β H X base w)
    {r : (Nat → Value) × Blk} (h : allocA P o.op ev = some r) (i : Nat) (H' : Heap) (X' : XF) (hnew : New β H H' X X' i r.2) :
    ∃ β' v' w', (execOp a.eval o).run P w = .ok (.value v') w' ∧ Le β β' ∧ VR β' (r.1 i) v' ∧ HR β' H' X' base w' ∧ Below base w w' := by
  unfold allocA at h
  cases ho : o.op with
  | alloc t =>
    rw [ho] at h
    obtain ⟨z, hz, h1⟩ := bind_some h
    cases h1
    obtain ⟨rz, pz⟩ := run_zeroValue hz w
    obtain ⟨β', e1, e3, e4, e5⟩ := alloc_sound hr i H' X' _ hnew z.cells t (VR.plain pz).cells
    refine ⟨β', .pointer (some ⟨w.heap.size, 0, none⟩), _, ?_, e3, .ptr (.fresh e1), e4, e5⟩
    simp [execOp, ho, Instr.alloc, rz, newVar, newRow]
  | box t x =>
    rw [ho] at h
    obtain ⟨v, hv, h1⟩ := bind_some h
    cases h1
    have hvr := hE x v hv
    obtain ⟨β', e1, e3, e4, e5⟩ := alloc_sound hr i H' X' _ hnew (a.eval x).cells t hvr.cells
    refine ⟨β', .pointer (some ⟨w.heap.size, 0, none⟩), _, ?_, e3, .ptr (.fresh e1), e4, e5⟩
    simp [execOp, ho, Instr.box, newVar, newRow]
  | buildSlice t n parts =>
    rw [ho] at h
    obtain ⟨ps, hps, h1⟩ := bind_some h
    have hpr := parts_rel hE parts.toList ps hps
    unfold buildSliceA at h1
    obtain ⟨d, hd, h2⟩ := bind_some h1
    cases d with
    | slice elem =>
      obtain ⟨size, hs, h3⟩ := bind_some h2
      split at h3
      · cases h3
      rename_i hlim
      obtain ⟨z, hz, h4⟩ := bind_some h3
      dsimp only at h4
      split at h4
      · cases h4
      rename_i hzs
      obtain ⟨cells, hc, h5⟩ := bind_some h4
      cases h5
      have hzs' : z.cells.size = size := by simpa using hzs
      have hlim' : size ≠ 0 ∧ n * size ≤ 2 ^ 24 := by
        simp only [Bool.or_eq_true, not_or, decide_eq_true_eq] at hlim
        omega
      obtain ⟨rz, pz⟩ := run_zeroValue hz w
      obtain ⟨ie, hie, rfl⟩ := map_some hs
      have hiz : ie.zero = some z := by
        unfold zeroA at hz
        obtain ⟨z', hz', k⟩ := bind_some hz
        rw [hie] at hz'
        split at k
        · cases k; exact hz'
        · cases k
      have hmany : LR β (manyA z.cells.toList n).toArray.toList (manyA z.cells.toList n).toArray.toList := by simpa using LR.many (VR.plain pz).cells n
      obtain ⟨cells', hc', rc⟩ := fill_rel _ _ _ _ _ _ hpr hmany hc
      obtain ⟨β', e1, e3, e4, e5⟩ := alloc_sound hr i H' X' _ hnew cells' elem rc
      refine ⟨β', .slice (some ⟨w.heap.size, 0, none⟩) n n, _, ?_, e3, .sl _ _ ?_ (Nat.le_refl _) (.inr (.fresh e1)), e4, e5⟩
      · by_cases hn0 : n = 0
        · subst hn0
          have hp0 : (parts.map fun (p : Nat × Operand) => (p.1, a.eval p.2)).toList = parts.toList.map fun p => (p.1, a.eval p.2) := by simp
          have hc0 : Instr.fill (fun i => some (i * ie.size, ie.size)) #[] (parts.toList.map fun p => (p.1, a.eval p.2)) = some cells' := by simpa [manyA] using hc'
          simp [execOp, ho, Instr.buildSlice, run_underlying hd, sizeOf, run_typeInfo hie, hc0, newRow, Array.range_zero']
        · have hpos : ¬ n * ie.size = 0 := by
            intro e
            rcases Nat.mul_eq_zero.1 e with k | k
            · exact hn0 k
            · exact hlim'.1 k
          have hm : ((Array.range (n * ie.size)).map (z.cells[· % z.cells.size]!)) = (manyA z.cells.toList n).toArray := by
            apply Array.ext'
            rw [← hzs', many_eq]
          have hrun := run_buildSlice (P := P) w t elem n (parts.map fun (p : Nat × Operand) => (p.1, a.eval p.2)) cells' ie z hd hie hiz (by omega) hpos (by rw [hm]; simpa using hc')
          simp only [execOp, ho, Sem.run_bind, hrun, Result.andThen_ok, Sem.run_pure]
      · have : n ≤ n * ie.size := Nat.le_mul_of_pos_right n (by omega)
        have : (2 : Nat) ^ 24 < openCap := by decide
        omega
    | _ => cases h2
  | makeSlice t l c =>
    rw [ho] at h
    obtain ⟨vl, hvl, h1⟩ := bind_some h
    obtain ⟨vc, hvc, h2⟩ := bind_some h1
    have rl := hE l vl hvl
    have rc := hE c vc hvc
    unfold makeSliceA at h2
    obtain ⟨d, hd, h3⟩ := bind_some h2
    split at h3
    case h_2 => cases h3
    rename_i elem li ci
    obtain ⟨ie, hie, h4⟩ := bind_some h3
    split at h4
    case isFalse => cases h4
    rename_i hb
    obtain ⟨z, hz, h5⟩ := bind_some h4
    dsimp only at h5
    split at h5
    · cases h5
    rename_i hzs
    cases h5
    have hzs' : z.cells.size = ie.size := by simpa using hzs
    obtain ⟨b1, b2, b3, b4, b5⟩ := hb
    generalize hle : a.eval l = l' at rl
    generalize hce : a.eval c = c' at rc
    cases rl
    cases rc
    obtain ⟨rz, pz⟩ := run_zeroValue hz w
    have hs' : szA P elem = some ie.size := by simp [szA, hie]
    have hC : LR β (manyA z.cells.toList ci.toNat) ((manyA z.cells.toList ci.toNat).toArray).toList := by simpa using LR.many (VR.plain pz).cells ci.toNat
    obtain ⟨β', e1, e3, e4, e5⟩ := alloc_sound hr i H' X' _ hnew _ elem hC
    refine ⟨β', .slice (some ⟨w.heap.size, 0, none⟩) li.toNat ci.toNat, _, ?_, e3, .sl _ _ ?_ (by omega) (.inr (.fresh e1)), e4, e5⟩
    · have w1 : IntKind.i64.wrap li = li := IntWalk.i64_in _ (by omega)
      have w2 : IntKind.i64.wrap ci = ci := IntWalk.i64_in _ (by omega)
      have hbb : (ie.bytes : Int) * ci ≤ 2 ^ 48 := by rw [Int.mul_comm]; omega
      have hbl : (ie.bytes : Int) * li ≤ 2 ^ 48 := by
        have : (ie.bytes : Int) * li ≤ ie.bytes * ci := Int.mul_le_mul_of_nonneg_left b2 (by omega)
        omega
      have hm : ((Array.range (ci.toNat * ie.size)).map (z.cells[· % z.cells.size]!)) = (manyA z.cells.toList ci.toNat).toArray := by
        apply Array.ext'
        rw [← hzs', many_eq]
      have c1 : ¬ ci < 0 := by omega
      have c2 : ¬ (2 ^ 48 < (ie.bytes : Int) * ci) := by omega
      have c3 : ¬ li < 0 := by omega
      have c4 : ¬ ci < li := by omega
      simp only [execOp, ho, hle, hce, Instr.makeSlice, Sem.run_bind, run_underlying hd, Result.andThen_ok, asInt, asIntOf, Sem.run_pure, run_typeInfo hie, w1, w2, c1, c2, c3, c4, gt_iff_lt,
        decide_false, Bool.or_self, Bool.false_eq_true, if_false, run_askRoom, run_sizeOf hs']
      by_cases hn0 : ci.toNat * ie.size = 0
      · have hc0 : ci.toNat = 0 := by
          rcases Nat.mul_eq_zero.1 hn0 with k | k
          · exact k
          · exact absurd k b5
        simp [hc0, manyA, newRow, Array.range_zero']
      · simp only [hn0, if_false, rz, Result.andThen_ok, newRow, Sem.run_bind, run_newObj, Sem.run_pure, hm]
        rfl
    · have : (2 : Nat) ^ 47 < openCap := by decide
      omega
  | _ => rw [ho] at h; cases h
def FR (β : Ren) (s : St) (a : Act) : Prop :=
  a.tmps.size = s.n ∧ (∀ t, t < s.n → ∃ v', a.tmps[t]? = some v' ∧ VR β (s.slot t) v') ∧ (∀ t, s.n ≤ t → s.f.get t = none)
theorem FR.mono {β β' : Ren} {s : St} {a : Act} (h : FR β s a) (k : Le β β') : FR β' s a :=
  ⟨h.1, fun t ht => by obtain ⟨v', e, r⟩ := h.2.1 t ht; exact ⟨v', e, r.mono k⟩, h.2.2⟩
theorem VR.undef (β : Ren) : VR β undef undef := .tuple rfl fun i u u' h => by simp at h
theorem FR.ev {s : St} {a : Act} (h : FR β s a) : ∀ x v, s.ev x = some v → VR β v (a.eval x) := by
  intro x v hx
  cases x with
  | tmp t =>
    cases hx
    by_cases ht : t < s.n
    · obtain ⟨v', e, r⟩ := h.2.1 t ht
      simpa [Act.eval, e] using r
    · have e1 : s.slot t = undef := by simp [St.slot, h.2.2 t (Nat.le_of_not_lt ht)]
      have e2 : a.eval (.tmp t) = undef := by
        have : a.tmps[t]? = none := Array.getElem?_eq_none (by rw [h.1]; exact Nat.le_of_not_lt ht)
        simp [Act.eval, this]
      rw [e1, e2]
      exact .undef β
  | const c =>
    have hx' : (if plainV c then some c else none) = some v := hx
    split at hx'
    · rename_i hp; cases hx'; exact .plain hp
    · cases hx'
  | global g => cases hx
  | func f => cases hx; exact .func _ rfl rfl (fun i u u' hu => by simp at hu) (fun i u u' hu => by simp at hu)
end
end Go.Am
namespace Go.Am
open Go.RowKit
section
variable {P : Program} {β : Ren} {H : Heap} {X : XF} {base : Nat} {w : World}
def RR (P : Program) (o : Oper) (a : Act) (β : Ren) (H H' : Heap) (X : XF) (base : Nat) (w : World) : R → Prop
  | .val v => ∃ β' v' w', ((execOp a.eval o).run P w = .ok (.value v') w' ∨ ((execOp a.eval o).run P w = .ok .skip w' ∧ v' = undef)) ∧ Le β β' ∧ VR β' v v' ∧ HR β' H' X base w' ∧ Below base w w'
  | .call f args => H' = H ∧ ∃ args' : Array Value, LR β args.toList args'.toList ∧
      ∀ fn, P.funcs[f]? = some fn → fn.body.isSome = true → (fn.name == "runtime.NumGoroutine") = false → (execOp a.eval o).run P w = .ok (.enter f args') w
  | .dfr d => H' = H ∧ ∃ d', (execOp a.eval o).run P w = .ok (.defer d') w ∧ DR β d d'
  | .pan v => H' = H ∧ ∃ v', (execOp a.eval o).run P w = .halt (.panic v') w ∧ VR β v v'
theorem RR.same {o : Oper} {a : Act} {v v' : Value} (hr : HR β H X base w) (h : (execOp a.eval o).run P w = .ok (.value v') w) (hv : VR β v v') : RR P o a β H H X base w (.val v) :=
  ⟨β, v', w, .inl h, Le.refl β, hv, hr, Below.refl _ _⟩
theorem LR.one {x : Value} {A : Array Value} (h : LR β [x] A.toList) : ∃ x', A = #[x'] ∧ VR β x x' := by
  obtain ⟨l⟩ := A
  cases l with
  | nil => have := h.1; simp at this
  | cons y l =>
    cases l with
    | nil => exact ⟨y, rfl, h.head.1⟩
    | cons z l => have := h.1; simp at this
theorem LR.two {x y : Value} {A : Array Value} (h : LR β [x, y] A.toList) : ∃ x' y', A = #[x', y'] ∧ VR β x x' ∧ VR β y y' := by
  obtain ⟨l⟩ := A
  cases l with
  | nil => have := h.1; simp at this
  | cons z l =>
    cases l with
    | nil => have := h.1; simp at this
    | cons u l =>
      cases l with
      | nil => exact ⟨z, u, rfl, h.head.1, h.head.2.head.1⟩
      | cons q l => have := h.1; simp at this
theorem copyA_sound (hr : HR β H X base w) {ts : Array TypeId} {dT ty : TypeId} {d x d' x' v : Value} {H' : Heap} (h0 : ts[0]? = some dT)
    (h : copyA P H dT d x = some (v, H')) (hd : VR β d d') (hx : VR β x x') :
    ∃ v' w', (Builtin.copy_ ts ty #[d', x']).run P w = .ok v' w' ∧ VR β v v' ∧ HR β H' X base w' ∧ Below base w w' := by
  unfold copyA at h
  obtain ⟨t, ht, h1⟩ := bind_some h
  have e0 : (#[d', x'] : Array Value)[0]? = some d' := rfl
  have e1 : (#[d', x'] : Array Value)[1]? = some x' := rfl
  cases t with
  | slice elem =>
    cases d with
    | slice b len cap =>
      obtain ⟨size, hs, h2⟩ := bind_some h1
      obtain ⟨m, hm, h3⟩ := bind_some h2
      dsimp only at h3
      split at h3
      · cases h3
      rename_i hsz
      obtain ⟨news, hn, h4⟩ := bind_some h3
      have hlen := run_lengthA (P := P) hm hx w
      have hnb : (∀ a l c, x = .slice a l c → Nat.min m len ≤ l) ∧ (∀ s, x = .string s → Nat.min m len ≤ s.size) := by
        constructor
        · intro a l c e; subst e; simp [lengthA] at hm; have hkm : Nat.min m len ≤ m := Nat.min_le_left m len; omega
        · intro s e; subst e; simp [lengthA] at hm; have hkm : Nat.min m len ≤ m := Nat.min_le_left m len; omega
      obtain ⟨news', en, rn, ln⟩ := run_firstA (P := P) hr hn hx hnb.1 hnb.2
      have hd2 : ∃ b' c', d' = .slice b' len c' ∧ (b = none → b' = none) ∧ (∀ a, b = some a → ∃ a', b' = some a' ∧ (Nat.min m len ≠ 0 → cap ≠ 0 → AR β a a')) := by
        have hml : Nat.min m len ≤ len := Nat.min_le_right _ _
        cases hd with
        | nils l c hcc => exact ⟨none, _, rfl, fun _ => rfl, fun a e => by cases e⟩
        | sl l c hcc hl ha => exact ⟨_, _, rfl, fun e => (by cases e), fun a e => by cases e; exact ⟨_, rfl, fun _ k => ha.resolve_left k⟩⟩
        | op l c hl hs0 hu ha =>
          exact ⟨_, _, rfl, fun e => (by cases e), fun a e => by cases e; exact ⟨_, rfl, fun k _ => ⟨hs0, hu, fun T hT => (ha T hT).2.2.resolve_left (by omega)⟩⟩⟩
      obtain ⟨b', c', rfl, hbn, hbs⟩ := hd2
      have hrun : (Builtin.copy_ ts ty #[.slice b' len c', x']).run P w = match (generalizing := false) b' with
          | some a => ((storeCells a news').run P w).andThen fun _ w => .ok (goInt (Nat.min m len)) w
          | none => .ok (goInt (Nat.min m len)) w := by
        unfold Builtin.copy_
        rw [h0, e0, e1]
        simp only [Sem.run_bind, run_underlying ht, Result.andThen_ok, hlen, run_sizeOf hs, en]
        cases b' <;> simp only [Sem.run_bind, Sem.run_pure]
      cases b with
      | none =>
        obtain rfl := hbn rfl
        cases h4
        exact ⟨_, w, hrun, .int _ _, hr, Below.refl _ _⟩
      | some a =>
        obtain ⟨a', rfl, ha⟩ := hbs a rfl
        simp only at h4
        split at h4
        · rename_i hz
          cases h4
          have hnil : news' = [] := List.length_eq_zero_iff.1 (by rw [← rn.1, ln, hz]; simp)
          refine ⟨_, w, ?_, .int _ _, hr, Below.refl _ _⟩
          rw [hrun, hnil]
          simp [storeCells, goInt]
        · rename_i hz
          split at h4
          · cases h4
          rename_i hc
          obtain ⟨H2, hst, e2⟩ := map_some h4
          cases e2
          obtain ⟨w', e3, r3, b3, _⟩ := run_stores (P := P) hr hst (ha hz hc) rn
          refine ⟨_, w', ?_, .int _ _, r3, b3⟩
          rw [hrun]
          simp only [e3, Result.andThen_ok, goInt]
    | _ => cases h1
  | _ => cases d <;> cases h1
theorem builtin_sound {o : Oper} {a : Act} {ev : Operand → Option Value} (hE : ∀ x v, ev x = some v → VR β v (a.eval x)) (hr : HR β H X base w)
    {c : Call} {b : Builtin} {vs : List Value} {v : Value} {H' : Heap} (ho : o.op = .call c) (hb : c.callee = .builtin b) (hvs : c.args.toList.mapM ev = some vs)
    (h : builtinA P b c.argTypes vs H = some (v, H')) : RR P o a β H H' X base w (.val v) := by
  have hargs := mapM_rel hE c.args.toList vs hvs
  obtain ⟨cs, hexec⟩ : ∃ cs, (execOp a.eval o).run P w = (builtin b c.argTypes o.type cs (c.args.map a.eval)).run P w := by
    refine ⟨c.args.map fun | .const _ => true | _ => false, ?_⟩
    simp only [execOp, ho, resolve, hb, invoke, Sem.run_bind, Sem.run_pure, Result.andThen_ok]
    rfl
  have hal : (c.args.map a.eval).toList = c.args.toList.map a.eval := by simp
  generalize c.args.map a.eval = A at hexec hal
  rw [← hal] at hargs
  unfold builtinA at h
  split at h
  · -- len
    rename_i x
    obtain ⟨t, ht, h1⟩ := bind_some h
    obtain ⟨u, hu, e⟩ := map_some h1
    cases e
    obtain ⟨x', rfl, rx⟩ := hargs.one
    have key : (Builtin.len_ c.argTypes o.type #[x']).run P w = .ok v w ∧ VR β v v := by
      unfold lenA at hu
      obtain ⟨d, hd, h2⟩ := bind_some hu
      have e0 : (#[x'] : Array Value)[0]? = some x' := rfl
      split at h2
      · cases rx; cases h2; exact ⟨by simp [Builtin.len_, ht, run_underlying hd], .int _ _⟩
      · cases rx <;> (cases h2; exact ⟨by simp [Builtin.len_, ht, run_underlying hd], .int _ _⟩)
      · cases h2; exact ⟨by simp [Builtin.len_, ht, run_underlying hd], .int _ _⟩
      · cases h2
    refine RR.same hr ?_ key.2
    rw [hexec]
    simp only [builtin, Sem.run_bind, key.1, Result.andThen_ok, Sem.run_pure]
  · -- append
    rename_i s x
    obtain ⟨t0, ht0, h1⟩ := bind_some h
    obtain ⟨t1, ht1, h2⟩ := bind_some h1
    obtain ⟨s', x', rfl, rs, rx⟩ := hargs.two
    obtain ⟨β', v', w', e, l, r, h3, b⟩ := appendA_sound (ty := o.type) hr ht0 ht1 h2 rs rx
    refine ⟨β', v', w', .inl ?_, l, r, h3, b⟩
    rw [hexec]
    simp only [builtin, Sem.run_bind, e, Result.andThen_ok, Sem.run_pure]
  · -- copy
    rename_i d x
    obtain ⟨t0, ht0, h1⟩ := bind_some h
    obtain ⟨d', x', rfl, rd, rx⟩ := hargs.two
    obtain ⟨v', w', e, r, h3, b⟩ := copyA_sound (ty := o.type) hr ht0 h1 rd rx
    refine ⟨β, v', w', .inl ?_, Le.refl β, r, h3, b⟩
    rw [hexec]
    simp only [builtin, Sem.run_bind, e, Result.andThen_ok, Sem.run_pure]
  · -- min
    rename_i x y
    obtain ⟨u, hu, e⟩ := map_some h
    cases e
    obtain ⟨x', y', rfl, rx, ry⟩ := hargs.two
    unfold min2A at hu
    split at hu
    · cases rx; cases ry; cases hu
      refine RR.same hr ?_ (.int _ _)
      rw [hexec]
      simp only [builtin, Sem.run_bind, run_min_int2, Result.andThen_ok, Sem.run_pure]
    · cases hu
  · rename_i x y
    obtain ⟨u, hu, e⟩ := map_some h
    cases e
    obtain ⟨x', y', rfl, rx, ry⟩ := hargs.two
    unfold max2A at hu
    split at hu
    · cases rx; cases ry; cases hu
      refine RR.same hr ?_ (.int _ _)
      rw [hexec]
      simp only [builtin, Sem.run_bind, run_max_int2, Result.andThen_ok, Sem.run_pure]
    · cases hu
  · cases h
theorem opA_sound {o : Oper} {a : Act} {ev : Operand → Option Value} (hE : ∀ x v, ev x = some v → VR β v (a.eval x)) (hr : HR β H X base w)
    {r : R} {H' : Heap} (h : opA P o ev H = some (r, H')) : RR P o a β H H' X base w r := by
  unfold opA at h
  split at h
  · -- a new block
    obtain ⟨q, hq, h1⟩ := bind_some h
    cases h1
    have hXn : X H.next = none := hr.xnext (Nat.le_refl _)
    have hgA : ∀ j, (H.alloc q.2).get j = if j = H.next then some q.2 else H.get j := fun j => Heap.get_alloc hr.next
    obtain ⟨β', v', w', e, l, vr, h2, b⟩ := allocA_sound hE hr hq H.next (H.alloc q.2) X ⟨hr.next, hr.fresh _ (Nat.le_refl _), by simp, by simp, getX_new hgA, hr.dnew (by simp) hgA hXn,
      fun j hj => ⟨(by intro e; subst e; rw [hXn] at hj; cases hj), hj⟩⟩
    exact ⟨β', v', w', .inl e, l, vr, h2, b⟩
  · cases ho : o.op with
    | move x =>
      rw [ho] at h
      obtain ⟨v, hv, h1⟩ := bind_some h
      cases h1
      exact RR.same hr (by simp [execOp, ho]) (hE x v hv)
    | assign x =>
      rw [ho] at h
      obtain ⟨v, hv, h1⟩ := bind_some h
      cases h1
      exact RR.same hr (by simp [execOp, ho]) (hE x v hv)
    | pick c x y =>
      rw [ho] at h
      obtain ⟨vc, hvc, h1⟩ := bind_some h
      have rc := hE c vc hvc
      cases vc with
      | bool b =>
        generalize hce : a.eval c = c' at rc
        cases rc
        cases b with
        | true =>
          have h2 : (do some (R.val (← ev x), H)) = some (r, H') := h1
          obtain ⟨v, hv, h3⟩ := bind_some h2
          cases h3
          exact RR.same hr (by simp [execOp, ho, hce, asBool]) (hE x v hv)
        | false =>
          have h2 : (do some (R.val (← ev y), H)) = some (r, H') := h1
          obtain ⟨v, hv, h3⟩ := bind_some h2
          cases h3
          exact RR.same hr (by simp [execOp, ho, hce, asBool]) (hE y v hv)
      | _ => cases h1
    | build t parts =>
      rw [ho] at h
      obtain ⟨ps, hps, h1⟩ := bind_some h
      obtain ⟨v, hv, h2⟩ := bind_some h1
      cases h2
      obtain ⟨v', e, r'⟩ := run_buildA hv (parts_rel hE parts.toList ps hps) w
      refine RR.same hr ?_ r'
      have e2 : (parts.map fun (p : Nat × Operand) => (p.1, a.eval p.2)) = (parts.toList.map fun p => (p.1, a.eval p.2)).toArray := by apply Array.ext'; simp
      have e3 : (Instr.build t (parts.map fun (i, x) => (i, a.eval x))).run P w = .ok v' w := by rw [← e, ← e2]
      simp [execOp, ho, e3]
    | load t x =>
      rw [ho] at h
      obtain ⟨v, hv, h1⟩ := bind_some h
      obtain ⟨u, hu, h2⟩ := bind_some h1
      cases h2
      obtain ⟨u', e, r'⟩ := run_loadAt hr hu (hE x v hv)
      exact RR.same hr (by simp only [execOp, ho, Sem.run_bind, e, Result.andThen_ok, Sem.run_pure]) r'
    | store t x y =>
      rw [ho] at h
      obtain ⟨vx, hvx, h1⟩ := bind_some h
      obtain ⟨vy, hvy, h2⟩ := bind_some h1
      obtain ⟨H2, hst, h3⟩ := bind_some h2
      cases h3
      obtain ⟨w', e, r', b, _⟩ := run_storeAt hr hst (hE x vx hvx) (hE y vy hvy)
      exact ⟨β, undef, w', .inr ⟨by simp only [execOp, ho, Sem.run_bind, e, Result.andThen_ok, Sem.run_pure], rfl⟩, Le.refl β, .undef β, r', b⟩
    | nilCheck x =>
      rw [ho] at h
      obtain ⟨v, hv, h1⟩ := bind_some h
      have rv := hE x v hv
      generalize hxe : a.eval x = x' at rv
      cases rv with
      | ptr ha => cases h1; exact RR.same hr (by simp [execOp, ho, hxe]) (.ptr ha)
      | func f hx hy kx ky =>
        cases f with
        | func f => cases h1; exact RR.same hr (by simp [execOp, ho, hxe]) (.func _ hx hy kx ky)
        | _ => cases h1
      | iface t hv' => cases h1; exact RR.same hr (by simp [execOp, ho, hxe]) (.iface t hv')
      | _ => cases h1
    | binOp op t x y u =>
      rw [ho] at h
      obtain ⟨vx, hvx, h1⟩ := bind_some h
      obtain ⟨vy, hvy, h2⟩ := bind_some h1
      split at h2
      case isFalse => cases h2
      rename_i hg
      obtain ⟨q, hq, h3⟩ := bind_some h2
      cases h3
      obtain ⟨e, rr⟩ := run_binA (x := x) (y := y) hq hg (hE x vx hvx) (hE y vy hvy) w
      exact RR.same hr (by simp only [execOp, ho]; rw [Sem.run_bind, e]; rfl) rr
    | unOp op t x =>
      rw [ho] at h
      obtain ⟨v, hv, h1⟩ := bind_some h
      obtain ⟨u, hu, h2⟩ := bind_some h1
      cases h2
      have rv := hE x v hv
      generalize hxe : a.eval x = x' at rv
      unfold unA at hu
      split at hu
      · cases rv; cases hu; exact RR.same hr (by simp [execOp, ho, hxe, Op.unary]) (.bool _)
      · cases rv; cases hu; exact RR.same hr (by simp [execOp, ho, hxe, Op.unary, Op.intArith]) (.int _ _)
      · cases hu
    | convert s t x =>
      rw [ho] at h
      obtain ⟨v, hv, h1⟩ := bind_some h
      obtain ⟨u, hu, h2⟩ := bind_some h1
      cases h2
      have rv := hE x v hv
      generalize hxe : a.eval x = x' at rv
      unfold convertA at hu
      obtain ⟨d1, hd1, h3⟩ := bind_some hu
      obtain ⟨d2, hd2, h4⟩ := bind_some h3
      split at h4
      · rename_i k2 k3 n
        cases rv
        cases h4
        refine RR.same hr ?_ (.int _ _)
        have e1 : (convert s t (.int k3 n)).run P w = .ok (.int k2 (k2.wrap n)) w := by
          simp [convert, run_underlying hd1, run_underlying hd2, Conv.intToInt]
        simp only [execOp, ho, hxe, Sem.run_bind, e1, Result.andThen_ok, Sem.run_pure]
      · cases h4
    | makeInterface t x =>
      rw [ho] at h
      obtain ⟨v, hv, h1⟩ := bind_some h
      obtain ⟨u, hu, h2⟩ := bind_some h1
      cases h2
      unfold makeInterfaceA at hu
      obtain ⟨d, hd, h3⟩ := bind_some hu
      have hd' : (Instr.makeInterface t (a.eval x)).run P w = .ok (.iface t (a.eval x)) w ∧ u = .iface t v := by
        cases d <;> first
          | (cases h3; done)
          | (cases h3; exact ⟨by simp [Instr.makeInterface, run_underlying hd], rfl⟩)
      obtain ⟨e, rfl⟩ := hd'
      exact RR.same hr (by simp [execOp, ho, e]) (.iface t (hE x v hv))
    | makeFunc fn first captured =>
      rw [ho] at h
      obtain ⟨v1, hv1, h1⟩ := bind_some h
      obtain ⟨v2, hv2, h2⟩ := bind_some h1
      cases h2
      have r1 := mapM_rel hE first.toList v1 hv1
      have r2 := mapM_rel hE captured.toList v2 hv2
      refine RR.same hr (v' := .func fn (first.map a.eval) (captured.map a.eval)) (by simp [execOp, ho, Instr.makeFunc]) (.func fn ?_ ?_ ?_ ?_)
      · have := r1.1; simp at this; simpa using this
      · have := r2.1; simp at this; simpa using this
      · intro i u u' hu hu'; exact r1.2 i u u' (by simpa using hu) (by simpa using hu')
      · intro i u u' hu hu'; exact r2.2 i u u' (by simpa using hu) (by simpa using hu')
    | slice t x lo hi mx =>
      rw [ho] at h
      obtain ⟨v, hv, h1⟩ := bind_some h
      obtain ⟨vl, hvl, h2⟩ := bind_some h1
      obtain ⟨vh, hvh, h3⟩ := bind_some h2
      obtain ⟨vm, hvm, h4⟩ := bind_some h3
      obtain ⟨u, hu, h5⟩ := bind_some h4
      cases h5
      obtain ⟨u', e, r'⟩ := run_sliceA hr hu (hE x v hv) (opt_rel hE hvl) (opt_rel hE hvh) (opt_rel hE hvm)
      exact RR.same hr (by simp only [execOp, ho, Sem.run_bind, e, Result.andThen_ok, Sem.run_pure]) r'
    | fieldAddr s x f =>
      rw [ho] at h
      obtain ⟨v, hv, h1⟩ := bind_some h
      obtain ⟨u, hu, h2⟩ := bind_some h1
      cases h2
      obtain ⟨u', e, r'⟩ := run_fieldAddrA hu (hE x v hv) w
      exact RR.same hr (by simp only [execOp, ho, Sem.run_bind, e, Result.andThen_ok, Sem.run_pure]) r'
    | field s x f =>
      rw [ho] at h
      obtain ⟨v, hv, h1⟩ := bind_some h
      obtain ⟨u, hu, h2⟩ := bind_some h1
      cases h2
      obtain ⟨u', e, r'⟩ := run_fieldA hu (hE x v hv) w
      exact RR.same hr (by simp only [execOp, ho, Sem.run_bind, e, Result.andThen_ok, Sem.run_pure]) r'
    | indexAddr t x ix =>
      rw [ho] at h
      obtain ⟨v, hv, h1⟩ := bind_some h
      obtain ⟨vi, hvi, h2⟩ := bind_some h1
      obtain ⟨u, hu, h3⟩ := bind_some h2
      cases h3
      obtain ⟨u', e, r'⟩ := run_indexAddrA hu (hE x v hv) (hE ix vi hvi) w
      exact RR.same hr (by simp only [execOp, ho, Sem.run_bind, e, Result.andThen_ok, Sem.run_pure]) r'
    | index t x ix =>
      rw [ho] at h
      obtain ⟨v, hv, h1⟩ := bind_some h
      obtain ⟨vi, hvi, h2⟩ := bind_some h1
      obtain ⟨u, hu, h3⟩ := bind_some h2
      cases h3
      obtain ⟨u', e, r'⟩ := run_indexA hu (hE x v hv) (hE ix vi hvi) w
      exact RR.same hr (by simp only [execOp, ho, Sem.run_bind, e, Result.andThen_ok, Sem.run_pure]) r'
    | typeAssert x xt t ok =>
      rw [ho] at h
      obtain ⟨v, hv, h1⟩ := bind_some h
      obtain ⟨u, hu, h2⟩ := bind_some h1
      cases h2
      have rv := hE x v hv
      generalize hxe : a.eval x = x' at rv
      unfold typeAssertA at hu
      obtain ⟨d, hd, h3⟩ := bind_some hu
      have hni : ∀ ms, d ≠ .interface ms := by intro ms e; subst e; cases h3
      have key : ∃ u', (Instr.typeAssert x' xt t ok).run P w = .ok u' w ∧ VR β u u' := by
        cases rv with
        | nili =>
          have h4 : (if ok then (zeroA P t).map fun z => Value.tuple #[z, .bool false] else none) = some u := by
            cases d <;> first | exact absurd rfl (hni _) | exact h3
          split at h4
          case isFalse => cases h4
          rename_i hok
          obtain ⟨z, hz, rfl⟩ := map_some h4
          obtain ⟨rz, pz⟩ := run_zeroValue hz w
          refine ⟨.tuple #[z, .bool false], ?_, .tupleL (by simpa using LR.cons (VR.plain pz) (.cons (.bool false) (.nil β)))⟩
          cases d <;> first | exact absurd rfl (hni _) | simp [Instr.typeAssert, run_underlying hd, hok, rz]
        | iface tt hvv =>
          rename_i v1 v1'
          have h4 : (if tt = t then some (if ok then Value.tuple #[v1, .bool true] else v1) else if ok then (zeroA P t).map fun z => Value.tuple #[z, .bool false] else none) = some u := by
            cases d <;> first | exact absurd rfl (hni _) | exact h3
          split at h4
          · rename_i htt
            subst htt
            cases h4
            cases hok : ok with
            | true =>
              refine ⟨.tuple #[v1', .bool true], ?_, .tupleL (by simpa using LR.cons hvv (.cons (.bool true) (.nil β)))⟩
              cases d <;> first | exact absurd rfl (hni _) | simp [Instr.typeAssert, run_underlying hd]
            | false =>
              refine ⟨v1', ?_, by simpa using hvv⟩
              cases d <;> first | exact absurd rfl (hni _) | simp [Instr.typeAssert, run_underlying hd]
          · rename_i htt
            split at h4
            case isFalse => cases h4
            rename_i hok
            obtain ⟨z, hz, rfl⟩ := map_some h4
            obtain ⟨rz, pz⟩ := run_zeroValue hz w
            refine ⟨.tuple #[z, .bool false], ?_, .tupleL (by simpa using LR.cons (VR.plain pz) (.cons (.bool false) (.nil β)))⟩
            cases d <;> first | exact absurd rfl (hni _) | simp [Instr.typeAssert, run_underlying hd, hok, rz, htt]
        | _ => cases d <;> cases h3
      obtain ⟨u', e, r'⟩ := key
      exact RR.same hr (by simp only [execOp, ho, hxe, Sem.run_bind, e, Result.andThen_ok, Sem.run_pure]) r'
    | extract x i =>
      rw [ho] at h
      obtain ⟨v, hv, h1⟩ := bind_some h
      obtain ⟨u, hu, h2⟩ := bind_some h1
      cases h2
      have rv := hE x v hv
      generalize hxe : a.eval x = x' at rv
      cases rv with
      | tuple hx kx =>
        obtain ⟨u', e, r'⟩ := (LR.ofA hx kx).get (i := i) (u := u) (by simpa [extractA] using hu)
        have e' : ∀ (q : Array Value), q.toList[i]? = some u' → q[i]? = some u' := fun q hq => by simpa using hq
        exact RR.same hr (by simp [execOp, ho, hxe, Instr.extract, e' _ e]) r'
      | _ => cases hu
    | call c =>
      rw [ho] at h
      simp only at h
      cases hb : c.callee with
      | builtin b =>
        rw [hb] at h
        obtain ⟨vs, hvs, h1⟩ := bind_some h
        obtain ⟨q, hq, h2⟩ := bind_some h1
        cases h2
        exact builtin_sound hE hr ho hb hvs hq
      | value f =>
        rw [hb] at h
        obtain ⟨vf, hvf, h1⟩ := bind_some h
        obtain ⟨vs, hvs, h2⟩ := bind_some h1
        obtain ⟨q, hq, h3⟩ := bind_some h2
        cases h3
        have rf := hE f vf hvf
        have rs := mapM_rel hE c.args.toList vs hvs
        generalize hfe : a.eval f = f' at rf
        cases rf with
        | func fn hx hy kx ky =>
          rename_i x x' y y'
          cases fn with
          | func g =>
            cases hq
            refine ⟨rfl, x' ++ c.args.map a.eval ++ y', ?_, ?_⟩
            · simp only [Array.toList_append, Array.toList_map]
              exact ((LR.ofA hx kx).append (by simpa using rs)).append (LR.ofA hy ky)
            · intro fn hfn hbd hnm
              have hb2 : fn.body.isNone = false := by cases hq : fn.body <;> simp_all
              have hcf : (callFunc g (x' ++ c.args.map a.eval ++ y')).run P w = .ok (.enter g (x' ++ c.args.map a.eval ++ y')) w := by
                have hfn' : P.funcs[g]? = some fn := hfn
                simp only [callFunc, Sem.run_bind, run_program, Result.andThen_ok]
                rw [hfn']
                simp only [hnm, hb2, Bool.false_eq_true, if_false, Sem.run_pure]
              simp only [execOp, ho, resolve, hb, hfe, Deferred.ofValue, invoke, Sem.run_bind, Sem.run_pure, Result.andThen_ok, hcf]
          | _ => cases hq
        | _ => cases hq
      | invoke x m => rw [hb] at h; cases h
    | defer c =>
      rw [ho] at h
      simp only at h
      cases hb : c.callee with
      | value f =>
        rw [hb] at h
        obtain ⟨vf, hvf, h1⟩ := bind_some h
        have rf := hE f vf hvf
        generalize hfe : a.eval f = f' at rf
        cases rf with
        | func fn hx hy kx ky =>
          rename_i x x' y y'
          cases fn with
          | func g =>
            obtain ⟨vs, hvs, h2⟩ := bind_some h1
            cases h2
            have rs := mapM_rel hE c.args.toList vs hvs
            refine ⟨rfl, { target := .fn (.func g) y', args := x' ++ c.args.map a.eval }, ?_, g, y, y', rfl, rfl, LR.ofA hy ky, ?_⟩
            · simp [execOp, ho, resolve, hb, hfe, Deferred.ofValue]
            · simp only [Array.toList_append, Array.toList_map]
              exact (LR.ofA hx kx).append (by simpa using rs)
          | _ => cases h1
        | _ => cases h1
      | builtin b => rw [hb] at h; cases h
      | invoke x m => rw [hb] at h; cases h
    | panic x =>
      rw [ho] at h
      obtain ⟨v, hv, h1⟩ := bind_some h
      have rv := hE x v hv
      generalize hxe : a.eval x = x' at rv
      cases rv with
      | iface t hvv =>
        cases h1
        exact ⟨rfl, _, by simp [execOp, ho, hxe, Instr.panic], .iface t hvv⟩
      | _ => cases h1
    | _ => rw [ho] at h; cases h
end
end Go.Am
namespace Go.Am
open Go.RowKit
section
variable {P : Program}
inductive DL (β : Ren) : List Deferred → List Deferred → Prop
  | nil : DL β [] []
  | cons {d d' : Deferred} {l l' : List Deferred} (h : DR β d d') (k : DL β l l') : DL β (d :: l) (d' :: l')
theorem DL.mono {β β' : Ren} {l l' : List Deferred} (h : DL β l l') (k : Le β β') : DL β' l l' := by
  induction h with
  | nil => exact .nil
  | cons h _ ih => exact .cons (h.mono k) ih
structure SR (β : Ren) (X : XF) (base : Nat) (s : St) (a : Act) (w : World) : Prop where
  fr : FR β s a
  df : DL β s.d a.defers
  hr : HR β s.H X base w
inductive ExR (β : Ren) : Ex → Exit → Prop
  | normal : ExR β .normal .normal
  | exit (id : Nat) : ExR β (.exit id) (.exit id)
  | ret : ExR β .ret .ret
  | panic {v v' : Value} (h : VR β v v') : ExR β (.panic v) (.panic [{ v := v', recovered := false }])
def Post (β : Ren) (X : XF) (base : Nat) (w0 : World) (e : Ex) (s' : St) : Exit → Act → World → Prop :=
  fun e2 a2 w2 => ∃ β', Le β β' ∧ ExR β' e e2 ∧ SR β' X base s' a2 w2 ∧ Below base w0 w2
def CPost (β : Ren) (X : XF) (base : Nat) (w0 : World) (r : CR) (H' : Heap) : Ending → World → Prop :=
  fun e w' => ∃ β', Le β β' ∧ HR β' H' X base w' ∧ Below base w0 w' ∧
    match r with
    | .ret v => ∃ v', e = .returned v' ∧ VR β' v v'
    | .pan v => ∃ v', e = .panicked [{ v := v', recovered := false }] ∧ VR β' v v'
def NameOk (P : Program) : Prop := ∀ (f : FuncId) (fn : Func), P.funcs[f]? = some fn → (fn.name == "runtime.NumGoroutine") = false
def SoundK (P : Program) (cl : Cl) : Prop := ∀ f args H r H', cl f args H = some (r, H') → (∃ fn, P.funcs[f]? = some fn ∧ fn.body.isSome = true) ∧
  ∀ β X base w (args' : Array Value), LR β args.toList args'.toList → HR β H X base w → Calls P f args' w (CPost β X base w r H')
theorem FR.put {β : Ren} {s : St} {a : Act} (h : FR β s a) {v v' : Value} (hv : VR β v v') (dst : Option Tmp) : FR β (s.put dst v) (a.put dst v') := by
  cases dst with
  | none => exact h
  | some d =>
    simp only [St.put, Act.put]
    by_cases hd : d < s.n
    · rw [if_pos hd]
      refine ⟨by simp [h.1], fun t ht => ?_, fun t ht => ?_⟩
      · by_cases e : t = d
        · refine ⟨v', ?_, by simpa [St.slot, Tr.get_put, e] using hv⟩
          subst e
          have hd' : t < a.tmps.size := by rw [h.1]; exact hd
          simp [hd']
        · obtain ⟨u', e1, r⟩ := h.2.1 t ht
          refine ⟨u', ?_, by simpa [St.slot, Tr.get_put, e] using r⟩
          rw [Array.getElem?_setIfInBounds_ne (Ne.symm e)]; exact e1
      · have : t ≠ d := by intro e; subst e; exact absurd hd (Nat.not_lt.2 ht)
        simp only [Tr.get_put, if_neg this]
        exact h.2.2 t ht
    · rw [if_neg hd]
      have : a.tmps.setIfInBounds d v' = a.tmps := Array.setIfInBounds_eq_of_size_le (by rw [h.1]; exact Nat.le_of_not_lt hd)
      rw [this]
      exact h
@[simp] theorem put_H (s : St) (dst : Option Tmp) (v : Value) : (s.put dst v).H = s.H := by
  cases dst with
  | none => rfl
  | some d => simp only [St.put]; split <;> rfl
@[simp] theorem put_d (s : St) (dst : Option Tmp) (v : Value) : (s.put dst v).d = s.d := by
  cases dst with
  | none => rfl
  | some d => simp only [St.put]; split <;> rfl
@[simp] theorem put_n (s : St) (dst : Option Tmp) (v : Value) : (s.put dst v).n = s.n := by
  cases dst with
  | none => rfl
  | some d => simp only [St.put]; split <;> rfl
@[simp] theorem act_put_defers (a : Act) (dst : Option Tmp) (v : Value) : (a.put dst v).defers = a.defers := by cases dst <;> rfl
theorem SR.put {β : Ren} {X : XF} {base : Nat} {s : St} {a : Act} {w : World} (h : SR β X base s a w) {v v' : Value} (hv : VR β v v') (dst : Option Tmp) :
    SR β X base (s.put dst v) (a.put dst v') w :=
  ⟨h.fr.put hv dst, by simpa using h.df, by simpa using h.hr⟩
theorem FR.with {β : Ren} {s : St} {a : Act} (h : FR β s a) (H : Heap) (d : List Deferred) (ds : List Deferred) : FR β { s with H := H, d := d } { a with defers := ds } := ⟨h.1, h.2.1, h.2.2⟩
theorem yielded_rel {β : Ren} {s : St} {a : Act} (h : FR β s a) (ops : Array Oper) (j : Nat) : yieldedA ops s j = yielded ops a.tmps j := by
  unfold yieldedA yielded
  cases hd : (ops[j]?).bind (·.dst) with
  | none => rfl
  | some t =>
    simp only [Option.bind_some]
    by_cases ht : t < s.n
    · obtain ⟨v', e, r⟩ := h.2.1 t ht
      have e' : a.tmps[t]? = some v' := e
      rw [e']
      cases hg : s.f.get t with
      | none =>
        have : s.slot t = undef := by simp [St.slot, hg]
        rw [this] at r
        cases r
        rfl
      | some v =>
        have : s.slot t = v := by simp [St.slot, hg]
        rw [this] at r
        cases r <;> rfl
    · have e1 : s.f.get t = none := h.2.2 t (Nat.le_of_not_lt ht)
      have e2 : a.tmps[t]? = none := Array.getElem?_eq_none (by rw [h.1]; exact Nat.le_of_not_lt ht)
      rw [e1, e2]
theorem wanted_rel {β : Ren} {s : St} {a : Act} (h : FR β s a) (ops : Array Oper) (o : Oper) : wantedA o ops s = Region.wanted o (yielded ops a.tmps) := by
  unfold wantedA Region.wanted
  cases o.guard with
  | none => rfl
  | some g => obtain ⟨j, want⟩ := g; simp only [yielded_rel h]
theorem doOp_sound {cl : Cl} (hN : NameOk P) (hcl : SoundK P cl) {o : Oper} {s s' : St} {e : Ex} (h : doOp P cl o s = some (e, s'))
    {β : Ren} {X : XF} {base : Nat} {a : Act} {w : World} (hs : SR β X base s a w) {K : Act → World → Prop} {Q : Exit → Act → World → Prop}
    (hK : e = .normal → ∀ β' a' w', Le β β' → SR β' X base s' a' w' → Below base w w' → K a' w')
    (hQ : ∀ v, e = .panic v → ∀ β' v' a' w', Le β β' → SR β' X base s' a' w' → Below base w w' → VR β' v v' → Q (.panic [{ v := v', recovered := false }]) a' w')
    (he : e = .normal ∨ ∃ v, e = .panic v) : o.wp P a w K Q := by
  unfold doOp at h
  obtain ⟨⟨r, H⟩, hr, h1⟩ := bind_some h
  have hso := opA_sound hs.fr.ev hs.hr hr
  unfold Oper.wp
  cases r with
  | val v =>
    cases h1
    obtain ⟨β', v', w', hrun, l, vr, hr', b⟩ := hso
    have hK' := hK rfl β' (a.put o.dst v') w' l (SR.put ⟨(hs.fr.mono l).with H s.d a.defers, hs.df.mono l, hr'⟩ vr o.dst) b
    rcases hrun with hrun | ⟨hrun, rfl⟩
    · rw [hrun]; exact hK'
    · rw [hrun]; exact hK'
  | dfr d =>
    cases h1
    obtain ⟨rfl, d', hrun, dr⟩ := hso
    rw [hrun]
    exact hK rfl β _ w (Le.refl β) (SR.put (a := { a with defers := d' :: a.defers }) ⟨hs.fr.with s.H (d :: s.d) (d' :: a.defers), .cons dr hs.df, hs.hr⟩ (.undef β) o.dst) (Below.refl _ _)
  | pan v =>
    cases h1
    obtain ⟨rfl, v', hrun, vr⟩ := hso
    rw [hrun]
    exact hQ v rfl β v' a w (Le.refl β) ⟨hs.fr, hs.df, hs.hr⟩ (Below.refl _ _) vr
  | call f args =>
    obtain ⟨rfl, args', la, hrun⟩ := hso
    obtain ⟨⟨q, H2⟩, hq, h2⟩ := bind_some h1
    obtain ⟨⟨fn, hfn, hbd⟩, hcall⟩ := hcl f args s.H q H2 hq
    rw [hrun fn hfn hbd (hN f fn hfn)]
    show Calls P f args' w _
    refine (hcall β X base w args' la hs.hr).mono ?_
    rintro e2 w2 ⟨β', l, hr2, b, hq2⟩
    cases q with
    | ret v =>
      cases h2
      obtain ⟨v', rfl, vr⟩ := hq2
      exact hK rfl β' _ w2 l (SR.put ⟨(hs.fr.mono l).with H2 s.d a.defers, hs.df.mono l, hr2⟩ vr o.dst) b
    | pan v =>
      cases h2
      obtain ⟨v', rfl, vr⟩ := hq2
      exact hQ v rfl β' v' a w2 l ⟨(hs.fr.mono l).with H2 s.d a.defers, hs.df.mono l, hr2⟩ b vr
theorem runOps_sound {cl : Cl} (hN : NameOk P) (hcl : SoundK P cl) (ops : Array Oper) (X : XF) (base : Nat) (w0 : World) (β0 : Ren) (e : Ex) (sE : St) :
    ∀ (rest : List Oper) (k : Nat) (s : St) (β : Ren) (a : Act) (w : World), ops.toList.drop k = rest → runOps P cl ops rest s = some (e, sE) → Le β0 β → SR β X base s a w → Below base w0 w →
      wpOps P ops (Post β0 X base w0 e sE) (List.range' k rest.length) a w := by
  intro rest
  induction rest with
  | nil =>
    intro k s β a w _ h l hs b
    simp only [runOps, Option.some.injEq, Prod.mk.injEq] at h
    obtain ⟨rfl, rfl⟩ := h
    exact ⟨β, l, .normal, hs, b⟩
  | cons o rest ih =>
    intro k s β a w hd h l hs b
    have hk : ops[k]? = some o := by
      have : (ops.toList.drop k)[0]? = some o := by rw [hd]; rfl
      simpa [List.getElem?_drop] using this
    have hd' : ops.toList.drop (k + 1) = rest := by rw [← List.drop_drop, hd]; rfl
    show wpOps P ops _ (k :: List.range' (k + 1) rest.length) a w
    simp only [wpOps, hk, ← wanted_rel hs.fr]
    simp only [runOps] at h
    split at h
    · rename_i hw
      rw [if_pos hw]
      left
      cases hdo : doOp P cl o s with
      | none => rw [hdo] at h; cases h
      | some q =>
        obtain ⟨e1, s1⟩ := q
        rw [hdo] at h
        cases e1 with
        | normal =>
          refine doOp_sound hN hcl hdo hs (fun _ β' a' w' l' hs' b' => ih (k + 1) s1 β' a' w' hd' h (l.trans l') hs' (b.trans b')) (fun v e => by cases e) (.inl rfl)
        | panic v =>
          simp only [Option.some.injEq, Prod.mk.injEq] at h
          obtain ⟨rfl, rfl⟩ := h
          refine doOp_sound hN hcl hdo hs (fun e => by cases e) (fun u e β' v' a' w' l' hs' b' vr => ?_) (.inr ⟨v, rfl⟩)
          cases e
          exact ⟨β', l.trans l', .panic vr, hs', b.trans b'⟩
        | exit id =>
          unfold doOp at hdo
          obtain ⟨⟨r, H⟩, _, h1⟩ := bind_some hdo
          cases r with
          | call f args => obtain ⟨⟨q, H2⟩, _, h2⟩ := bind_some h1; cases q <;> cases h2
          | _ => cases h1
        | ret =>
          unfold doOp at hdo
          obtain ⟨⟨r, H⟩, _, h1⟩ := bind_some hdo
          cases r with
          | call f args => obtain ⟨⟨q, H2⟩, _, h2⟩ := bind_some h1; cases q <;> cases h2
          | _ => cases h1
    · rename_i hw
      rw [if_neg hw]
      exact ih (k + 1) _ β _ w hd' h l (hs.put (.undef β) o.dst) b
end
end Go.Am
namespace Go.Am
open Go.RowKit
section
variable {P : Program}
def LW (P : Program) (c : Code) (Q : Exit → Act → World → Prop) (a : Act) (w : World) : Prop :=
  ∀ (b : Frame) (k : List Item) (cs : List Frame), ∃ e a' w', Q e a' w' ∧ Arrives P (lone (b.at a (.code c :: .inLoop c :: k)) cs w) b k cs e a' w'
theorem wp_of_LW {c : Code} {Q : Exit → Act → World → Prop} {a : Act} {w : World} (h : LW P c Q a w) : (Code.loop c).wp P Q a w :=
  fun b k cs => let ⟨e, a', w', q, r⟩ := h b k cs; ⟨e, a', w', q, .of_steps (.one step_loop) r⟩
theorem LW_of_wp {c : Code} {Q : Exit → Act → World → Prop} {a : Act} {w : World} (h : c.wp P (Exit.then (LW P c Q) Q) a w) : LW P c Q a w := by
  intro b k cs
  obtain ⟨e, a₁, w₁, hq, harr⟩ := h b (.inLoop c :: k) cs
  cases e with
  | normal =>
    obtain ⟨e₂, a₂, w₂, hq₂, harr₂⟩ := hq b k cs
    exact ⟨e₂, a₂, w₂, hq₂, .of_steps (Steps.trans harr (.one step_inLoop)) harr₂⟩
  | exit id => exact ⟨_, a₁, w₁, hq, .pass (x := .inLoop c) rfl (fun _ _ => .inl (by simp)) harr⟩
  | goto l => exact ⟨_, a₁, w₁, hq, .pass (x := .inLoop c) rfl (fun _ _ => .inl (by simp)) harr⟩
  | ret => exact ⟨_, a₁, w₁, hq, .pass (x := .inLoop c) rfl (fun _ _ => .inl (by simp)) harr⟩
  | panic ch => exact ⟨_, a₁, w₁, hq, .pass (x := .inLoop c) rfl (fun _ _ => .inl (by simp)) harr⟩
  | outgrown => exact ⟨_, a₁, w₁, hq, .pass (x := .inLoop c) rfl (fun _ _ => .inl (by simp)) harr⟩
theorem LW.mono {c : Code} {Q Q' : Exit → Act → World → Prop} {a : Act} {w : World} (h : LW P c Q a w) (hq : ∀ e a w, Q e a w → Q' e a w) : LW P c Q' a w :=
  fun b k cs => let ⟨e, a', w', q, r⟩ := h b k cs; ⟨e, a', w', hq _ _ _ q, r⟩
abbrev CodeRun := Code → St → Option (Ex × St)
def SoundX (P : Program) (ex : CodeRun) : Prop := ∀ c s e s', ex c s = some (e, s') → ∀ β X base a w, SR β X base s a w →
  c.wp P (Post β X base w e s') a w ∧ ∀ b, c = .loop b → LW P b (Post β X base w e s') a w
def SoundD (P : Program) (cl : Cl) : Prop := ∀ id ops s e s', regionD P cl ops s = some (e, s') → ∀ β X base a w, SR β X base s a w → (Code.region id ops true).wp P (Post β X base w e s') a w
theorem Post.trans {β β1 : Ren} {X : XF} {base : Nat} {w0 w1 : World} {e : Ex} {s : St} (l : Le β β1) (b : Below base w0 w1) {e2 : Exit} {a2 : Act} {w2 : World}
    (h : Post β1 X base w1 e s e2 a2 w2) : Post β X base w0 e s e2 a2 w2 := by
  obtain ⟨β', l', he, hs, b'⟩ := h
  exact ⟨β', l.trans l', he, hs, b.trans b'⟩
theorem eval_bool {β : Ren} {s : St} {a : Act} (h : FR β s a) {c : Operand} {t : Bool} (hc : s.ev c = some (.bool t)) : a.eval c = .bool t := by
  have := h.ev c _ hc
  generalize a.eval c = v at this
  cases this
  rfl
theorem stepC_sound {cl : Cl} {ex : CodeRun} (hN : NameOk P) (hcl : SoundK P cl) (hD : SoundD P cl) (hx : SoundX P ex) : SoundX P (stepC P cl ex) := by
  intro c s e s' h β X base a w hs
  cases c with
  | skip =>
    simp only [stepC, Option.some.injEq, Prod.mk.injEq] at h
    obtain ⟨rfl, rfl⟩ := h
    exact ⟨wp_skip ⟨β, Le.refl β, .normal, hs, Below.refl _ _⟩, fun b hb => by cases hb⟩
  | region id ops draw =>
    refine ⟨?_, fun b hb => by cases hb⟩
    simp only [stepC] at h
    cases draw with
    | true => exact hD id ops s e s' h β X base a w hs
    | false =>
      refine wp_region ?_
      have := runOps_sound hN hcl ops X base w β e s' ops.toList 0 s β a w (by simp) h (Le.refl β) hs (Below.refl _ _)
      simpa [List.range_eq_range'] using this
  | seq x y =>
    refine ⟨?_, fun b hb => by cases hb⟩
    simp only [stepC] at h
    refine wp_seq ?_
    cases h1 : ex x s with
    | none => rw [h1] at h; cases h
    | some q =>
      obtain ⟨e1, s1⟩ := q
      rw [h1] at h
      refine wp_mono (hx x s e1 s1 h1 β X base a w hs).1 ?_
      intro e2 a2 w2 hp
      obtain ⟨β', l, he, hs', b'⟩ := hp
      cases he with
      | normal =>
        exact wp_mono (hx y s1 e s' h β' X base a2 w2 hs').1 fun _ _ _ hp => hp.trans l b'
      | exit id => simp only [Option.some.injEq, Prod.mk.injEq] at h; obtain ⟨rfl, rfl⟩ := h; exact ⟨β', l, .exit id, hs', b'⟩
      | ret => simp only [Option.some.injEq, Prod.mk.injEq] at h; obtain ⟨rfl, rfl⟩ := h; exact ⟨β', l, .ret, hs', b'⟩
      | panic hv => simp only [Option.some.injEq, Prod.mk.injEq] at h; obtain ⟨rfl, rfl⟩ := h; exact ⟨β', l, .panic hv, hs', b'⟩
  | cond c x y =>
    refine ⟨?_, fun b hb => by cases hb⟩
    simp only [stepC] at h
    split at h
    · rename_i t hc
      refine wp_cond (eval_bool hs.fr hc) ?_
      exact (hx _ s e s' h β X base a w hs).1
    · cases h
  | block id x =>
    refine ⟨?_, fun b hb => by cases hb⟩
    simp only [stepC] at h
    refine wp_block ?_
    cases h1 : ex x s with
    | none => rw [h1] at h; cases h
    | some q =>
      obtain ⟨e1, s1⟩ := q
      rw [h1] at h
      refine wp_mono (hx x s e1 s1 h1 β X base a w hs).1 ?_
      intro e2 a2 w2 hp
      obtain ⟨β', l, he, hs', b'⟩ := hp
      cases he with
      | exit id' =>
        simp only at h
        split at h
        · rename_i hid
          simp only [Option.some.injEq, Prod.mk.injEq] at h
          obtain ⟨rfl, rfl⟩ := h
          simp only [Exit.inBlock, hid, if_true]
          exact ⟨β', l, .normal, hs', b'⟩
        · rename_i hid
          simp only [Option.some.injEq, Prod.mk.injEq] at h
          obtain ⟨rfl, rfl⟩ := h
          simp only [Exit.inBlock, hid, if_false]
          exact ⟨β', l, .exit id', hs', b'⟩
      | normal => simp only [Option.some.injEq, Prod.mk.injEq] at h; obtain ⟨rfl, rfl⟩ := h; exact ⟨β', l, .normal, hs', b'⟩
      | ret => simp only [Option.some.injEq, Prod.mk.injEq] at h; obtain ⟨rfl, rfl⟩ := h; exact ⟨β', l, .ret, hs', b'⟩
      | panic hv => simp only [Option.some.injEq, Prod.mk.injEq] at h; obtain ⟨rfl, rfl⟩ := h; exact ⟨β', l, .panic hv, hs', b'⟩
  | loop x =>
    simp only [stepC] at h
    have key : LW P x (Post β X base w e s') a w := by
      refine LW_of_wp ?_
      cases h1 : ex x s with
      | none => rw [h1] at h; cases h
      | some q =>
        obtain ⟨e1, s1⟩ := q
        rw [h1] at h
        refine wp_mono (hx x s e1 s1 h1 β X base a w hs).1 ?_
        intro e2 a2 w2 hp
        obtain ⟨β', l, he, hs', b'⟩ := hp
        cases he with
        | normal => exact ((hx (.loop x) s1 e s' h β' X base a2 w2 hs').2 x rfl).mono fun _ _ _ hp => hp.trans l b'
        | exit id => simp only [Option.some.injEq, Prod.mk.injEq] at h; obtain ⟨rfl, rfl⟩ := h; exact ⟨β', l, .exit id, hs', b'⟩
        | ret => simp only [Option.some.injEq, Prod.mk.injEq] at h; obtain ⟨rfl, rfl⟩ := h; exact ⟨β', l, .ret, hs', b'⟩
        | panic hv => simp only [Option.some.injEq, Prod.mk.injEq] at h; obtain ⟨rfl, rfl⟩ := h; exact ⟨β', l, .panic hv, hs', b'⟩
    exact ⟨wp_of_LW key, fun b hb => by cases hb; exact key⟩
  | exit id =>
    simp only [stepC, Option.some.injEq, Prod.mk.injEq] at h
    obtain ⟨rfl, rfl⟩ := h
    exact ⟨wp_exit ⟨β, Le.refl β, .exit id, hs, Below.refl _ _⟩, fun b hb => by cases hb⟩
  | ret =>
    simp only [stepC, Option.some.injEq, Prod.mk.injEq] at h
    obtain ⟨rfl, rfl⟩ := h
    exact ⟨wp_ret ⟨β, Le.refl β, .ret, hs, Below.refl _ _⟩, fun b hb => by cases hb⟩
  | _ => simp [stepC] at h
theorem ofArgs_get : ∀ (vs : List Value) (i t : Nat), (ofArgs i vs).get t = if i ≤ t then vs[t - i]? else none
  | [], i, t => by simp [ofArgs]
  | v :: vs, i, t => by
    simp only [ofArgs, Tr.get_put]
    by_cases e : t = i
    · subst e; simp
    · rw [if_neg e, ofArgs_get vs (i + 1) t]
      by_cases h : i + 1 ≤ t
      · rw [if_pos h, if_pos (by omega)]
        have : t - i = (t - (i + 1)) + 1 := by omega
        rw [this]; rfl
      · rw [if_neg h, if_neg (by omega)]
theorem enter_FR {β : Ren} {fn : Func} {args args' : Array Value} {H : Heap} (h : LR β args.toList args'.toList) (ds : List Deferred) :
    FR β (enterA fn args H) { tmps := args' ++ Array.replicate (fn.ntmps - args'.size) undef, defers := ds } := by
  have hl : args.size = args'.size := by have := h.1; simpa using this
  have hn : (enterA fn args H).n = Nat.max fn.ntmps args.size := rfl
  have hmax : Nat.max fn.ntmps args.size = args'.size + (fn.ntmps - args'.size) := by rw [hl]; show max fn.ntmps args'.size = _; omega
  refine ⟨by rw [hn, hmax]; simp, fun t ht => ?_, fun t ht => ?_⟩
  · rw [hn, hmax] at ht
    have hs : (enterA fn args H).slot t = (args.toList[t]?).getD undef := by simp [St.slot, enterA, ofArgs_get]
    rw [hs]
    by_cases h1 : t < args'.size
    · have h2 : t < args.size := by omega
      obtain ⟨u', e, r⟩ := h.get (i := t) (u := args[t]) (by simp [h2])
      refine ⟨u', ?_, by simpa [h2] using r⟩
      show (args' ++ Array.replicate (fn.ntmps - args'.size) undef)[t]? = some u'
      rw [Array.getElem?_append_left h1]
      simpa using e
    · refine ⟨undef, ?_, ?_⟩
      · show (args' ++ Array.replicate (fn.ntmps - args'.size) undef)[t]? = some undef
        rw [Array.getElem?_append_right (by omega)]
        simp [Array.getElem?_replicate]
        omega
      · have : args.toList[t]? = none := by simp; omega
        rw [this]; exact .undef β
  · show (ofArgs 0 args.toList).get t = none
    rw [hn, hmax] at ht
    rw [ofArgs_get]
    simp
    omega
def resSem (tmps : Array Value) : ResultVar → Sem Value
  | .tmp t => pure (tmps.getD t undef)
  | .cell b t => do loadVar t (← asAddr (tmps.getD b undef))
theorem results_eq (fn : Func) (tmps : Array Value) : results fn tmps = (do let vs ← fn.results.mapM (resSem tmps); pure (if h : vs.size = 1 then vs[0] else .tuple vs)) := by
  unfold results
  congr 2
theorem results_sound {fn : Func} {s : St} {a : Act} {β : Ren} {X : XF} {base : Nat} {w : World} {v : Value} (hf : FR β s a) (hr : HR β s.H X base w) (h : resultsA P fn s = some v) :
    ∃ v', (results fn a.tmps).run P w = .ok v' w ∧ VR β v v' := by
  unfold resultsA at h
  obtain ⟨vs, hvs, h1⟩ := bind_some h
  have key : ∀ (rs : List ResultVar) (vs : List Value), rs.mapM (resultA P s) = some vs → ∃ vs', (rs.mapM (resSem a.tmps)).run P w = Result.ok vs' w ∧ LR β vs vs' := by
    intro rs
    induction rs with
    | nil => intro vs h; simp at h; subst h; exact ⟨[], by simp, .nil β⟩
    | cons r rs ih =>
      intro vs h
      rw [List.mapM_cons] at h
      obtain ⟨u, hu, h1⟩ := bind_some h
      obtain ⟨us, hus, h2⟩ := bind_some h1
      cases h2
      obtain ⟨us', e, r'⟩ := ih us hus
      have hone : ∃ u', (resSem a.tmps r).run P w = .ok u' w ∧ VR β u u' := by
        cases r with
        | tmp t =>
          have hu' : s.ev (.tmp t) = some u := hu
          exact ⟨a.tmps.getD t undef, rfl, hf.ev _ _ hu'⟩
        | cell b t =>
          have hu' : loadA P s.H t (s.slot b) = some u := hu
          have rr : VR β (s.slot b) (a.tmps.getD b undef) := hf.ev (.tmp b) _ rfl
          simp only [resSem]
          generalize s.slot b = p at hu' rr
          generalize a.tmps.getD b undef = p' at rr
          cases rr with
          | ptr ha =>
            obtain ⟨u', e2, r2⟩ := run_loadVar (P := P) hr hu' ha
            exact ⟨u', by simp only [asAddr, Sem.run_bind, Sem.run_pure, Result.andThen_ok, e2], r2⟩
          | _ => simp [loadA] at hu'
      obtain ⟨u', e2, r2⟩ := hone
      exact ⟨u' :: us', by simp only [List.mapM_cons, Sem.run_bind, Sem.run_pure, Result.andThen_ok, e, e2], .cons r2 r'⟩
  obtain ⟨vs', e, r⟩ := key fn.results.toList vs hvs
  have hrun : (results fn a.tmps).run P w = .ok (if h : vs'.toArray.size = 1 then vs'.toArray[0] else .tuple vs'.toArray) w := by
    rw [results_eq, Array.mapM_eq_mapM_toList]
    simp [e]
  rw [hrun]
  refine ⟨_, rfl, ?_⟩
  cases vs with
  | nil =>
    cases h1
    have : vs' = [] := List.length_eq_zero_iff.1 (by rw [← r.1]; rfl)
    subst this
    exact .undef β
  | cons x xs =>
    cases vs' with
    | nil => have := r.1; simp at this
    | cons y ys =>
      cases xs with
      | nil =>
        cases h1
        have : ys = [] := List.length_eq_zero_iff.1 (by have := r.1; simpa using this.symm)
        subst this
        exact r.head.1
      | cons x2 xs =>
        cases h1
        have hl : (y :: ys).length ≠ 1 := by rw [← r.1]; simp
        rw [dif_neg (by simpa using hl)]
        exact .tupleL (by simpa using r)
def MR (β : Ren) (p : Option Value) (u : FrameMode) : Prop :=
  match p with
  | none => u = .returning ∨ ∃ v', u = .panicking [{ v := v', recovered := true }]
  | some v => ∃ v', u = .panicking [{ v := v', recovered := false }] ∧ VR β v v'
theorem MR.mono {β β' : Ren} {p : Option Value} {u : FrameMode} (h : MR β p u) (k : Le β β') : MR β' p u := by
  cases p with
  | none => exact h
  | some v => obtain ⟨v', e, r⟩ := h; exact ⟨v', e, r.mono k⟩
def PostS (β : Ren) (X : XF) (base : Nat) (w0 : World) (c0 : Frame) (cs : List Frame) (e : Ex) (p : Option Value) (s' : St) : Exit → Act → List Frame → World → Prop :=
  fun e2 a2 cs2 w2 => ∃ β' u', Le β β' ∧ ExR β' e e2 ∧ SR β' X base s' a2 w2 ∧ Below base w0 w2 ∧ cs2 = { c0 with mode := u' } :: cs ∧ MR β' p u'
theorem PostS.trans {β β1 : Ren} {X : XF} {base : Nat} {w0 w1 : World} {c0 : Frame} {u1 : FrameMode} {cs : List Frame} {e : Ex} {p : Option Value} {s : St} (l : Le β β1) (b : Below base w0 w1)
    {e2 : Exit} {a2 : Act} {cs2 : List Frame} {w2 : World} (h : PostS β1 X base w1 { c0 with mode := u1 } cs e p s e2 a2 cs2 w2) : PostS β X base w0 c0 cs e p s e2 a2 cs2 w2 := by
  obtain ⟨β', u', l', he, hs, b', hc, hm⟩ := h
  exact ⟨β', u', l.trans l', he, hs, b.trans b', hc, hm⟩
theorem recoverD_none {β : Ren} {c : Frame} {cs : List Frame} (h : MR β none c.mode) : recoverD (c :: cs) = none := by
  rcases h with h | ⟨v', h⟩
  · simp [recoverD, h]
  · simp [recoverD, h]
theorem runOpsS_sound {cl : Cl} (hN : NameOk P) (hcl : SoundK P cl) (ops : Array Oper) (X : XF) (base : Nat) (w0 : World) (β0 : Ren) (c00 : Frame) (cs : List Frame) (e : Ex) (pE : Option Value) (sE : St) :
    ∀ (rest : List Oper) (k : Nat) (s : St) (p : Option Value) (β : Ren) (a : Act) (u : FrameMode) (w : World), ops.toList.drop k = rest → runOpsS P cl ops rest p s = some (e, pE, sE) → Le β0 β → SR β X base s a w →
      MR β p u → Below base w0 w → wpOpsS P ops (PostS β0 X base w0 c00 cs e pE sE) (List.range' k rest.length) a ({ c00 with mode := u } :: cs) w := by
  intro rest
  induction rest with
  | nil =>
    intro k s p β a u w _ h l hs hm b
    simp only [runOpsS, Option.some.injEq, Prod.mk.injEq] at h
    obtain ⟨rfl, rfl, rfl⟩ := h
    exact ⟨β, u, l, .normal, hs, b, rfl, hm⟩
  | cons o rest ih =>
    intro k s p β a u w hd h l hs hm b
    have hk : ops[k]? = some o := by
      have : (ops.toList.drop k)[0]? = some o := by rw [hd]; rfl
      simpa [List.getElem?_drop] using this
    have hd' : ops.toList.drop (k + 1) = rest := by rw [← List.drop_drop, hd]; rfl
    show wpOpsS P ops _ (k :: List.range' (k + 1) rest.length) a _ w
    simp only [wpOpsS, hk, ← wanted_rel hs.fr]
    simp only [runOpsS] at h
    split at h
    · rename_i hw
      rw [if_pos hw]
      split at h
      · -- recover
        rename_i hrec
        have hrun : (execOp a.eval o).run P w = .ok .recover w := by
          unfold isRec at hrec
          split at hrec
          · rename_i ho
            simp only [execOp, ho, resolve, invoke, builtin, Sem.run_bind, Sem.run_pure, Result.andThen_ok]
          · cases hrec
        rw [hrun]
        cases p with
        | none =>
          have hn : recoverD ({ c00 with mode := u } :: cs) = none := recoverD_none (c := { c00 with mode := u }) hm
          simp only [hn]
          exact ih (k + 1) _ none β _ u w hd' h l (hs.put .nili o.dst) hm b
        | some v =>
          obtain ⟨v', rfl, vr⟩ := hm
          have hn : recoverD ({ c00 with mode := .panicking [{ v := v', recovered := false }] } :: cs) = some (v', { c00 with mode := .panicking [{ v := v', recovered := true }] } :: cs) := by
            simp [recoverD]
          simp only [hn]
          exact ih (k + 1) _ none β _ _ w hd' h l (hs.put vr o.dst) (.inr ⟨v', rfl⟩) b
      · rename_i hrec
        cases hdo : doOp P cl o s with
        | none => rw [hdo] at h; cases h
        | some q =>
          obtain ⟨e1, s1⟩ := q
          rw [hdo] at h
          have hwp : o.wp P a w (fun a' w' => wpOpsS P ops (PostS β0 X base w0 c00 cs e pE sE) (List.range' (k + 1) rest.length) a' ({ c00 with mode := u } :: cs) w')
              (fun e2 a' w' => PostS β0 X base w0 c00 cs e pE sE e2 a' ({ c00 with mode := u } :: cs) w') := by
            cases e1 with
            | normal =>
              refine doOp_sound hN hcl hdo hs (fun _ β' a' w' l' hs' b' => ih (k + 1) s1 p β' a' u w' hd' h (l.trans l') hs' (hm.mono l') (b.trans b')) (fun v e => by cases e) (.inl rfl)
            | panic v =>
              simp only [Option.some.injEq, Prod.mk.injEq] at h
              obtain ⟨rfl, rfl, rfl⟩ := h
              refine doOp_sound hN hcl hdo hs (fun e => by cases e) (fun x e β' v' a' w' l' hs' b' vr => ?_) (.inr ⟨v, rfl⟩)
              cases e
              exact ⟨β', u, l.trans l', .panic vr, hs', b.trans b', rfl, hm.mono l'⟩
            | exit id =>
              unfold doOp at hdo
              obtain ⟨⟨r, H⟩, _, h1⟩ := bind_some hdo
              cases r with
              | call f args => obtain ⟨⟨q, H2⟩, _, h2⟩ := bind_some h1; cases q <;> cases h2
              | _ => cases h1
            | ret =>
              unfold doOp at hdo
              obtain ⟨⟨r, H⟩, _, h1⟩ := bind_some hdo
              cases r with
              | call f args => obtain ⟨⟨q, H2⟩, _, h2⟩ := bind_some h1; cases q <;> cases h2
              | _ => cases h1
          unfold Oper.wp at hwp
          generalize (execOp a.eval o).run P w = r at hwp
          split
          · exact hwp.elim
          · exact hwp
    · rename_i hw
      rw [if_neg hw]
      exact ih (k + 1) _ p β _ u w hd' h l (hs.put (.undef β) o.dst) hm b
theorem codeS_sound {cl : Cl} {ex : CodeRun} (hN : NameOk P) (hcl : SoundK P cl) (hx : SoundX P ex) (X : XF) (base : Nat) : ∀ (c : Code) (p : Option Value) (s : St) (e : Ex) (p' : Option Value) (s' : St),
    codeS P cl ex c p s = some (e, p', s') → ∀ (β : Ren) (a : Act) (w : World) (c0 : Frame) (cs : List Frame), SR β X base s a w → MR β p c0.mode →
    c.wpS P (PostS β X base w c0 cs e p' s') a (c0 :: cs) w := by
  have other : ∀ (c : Code) (p : Option Value) (s : St) (e : Ex) (p' : Option Value) (s' : St), (ex c s).map (fun (e, s) => (e, p, s)) = some (e, p', s') →
      ∀ (β : Ren) (a : Act) (w : World) (c0 : Frame) (cs : List Frame), SR β X base s a w → MR β p c0.mode → c.wpS P (PostS β X base w c0 cs e p' s') a (c0 :: cs) w := by
    intro c p s e p' s' h β a w c0 cs hs hm
    obtain ⟨⟨e1, s1⟩, h1, h2⟩ := map_some h
    simp only [Prod.mk.injEq] at h2
    obtain ⟨rfl, rfl, rfl⟩ := h2
    refine wpS_of_wp (wp_mono (hx c s e1 s1 h1 β X base a w hs).1 ?_)
    rintro e2 a2 w2 ⟨β', l, he, hs', b⟩
    exact ⟨β', c0.mode, l, he, hs', b, rfl, hm.mono l⟩
  intro c
  induction c with
  | seq x y ihx ihy =>
    intro p s e p' s' h β a w c0 cs hs hm
    simp only [codeS] at h
    refine wpS_seq ?_
    cases h1 : codeS P cl ex x p s with
    | none => rw [h1] at h; cases h
    | some q =>
      obtain ⟨e1, p1, s1⟩ := q
      rw [h1] at h
      have hwx := ihx p s e1 p1 s1 h1 β a w c0 cs hs hm
      intro b k hb hr
      obtain ⟨e2, a2, cs2, w2, hp, harr⟩ := hwx b k hb hr
      refine ⟨e2, a2, cs2, w2, ?_, harr⟩
      obtain ⟨β', u', l, he, hs', b', rfl, hm'⟩ := hp
      cases he with
      | normal =>
        have hwy := ihy p1 s1 e p' s' h β' a2 w2 { c0 with mode := u' } cs hs' hm'
        intro b3 k3 hb3 hr3
        obtain ⟨e3, a3, cs3, w3, hp3, harr3⟩ := hwy b3 k3 hb3 hr3
        exact ⟨e3, a3, cs3, w3, hp3.trans l b', harr3⟩
      | exit id => simp only [Option.some.injEq, Prod.mk.injEq] at h; obtain ⟨rfl, rfl, rfl⟩ := h; exact ⟨β', u', l, .exit id, hs', b', rfl, hm'⟩
      | ret => simp only [Option.some.injEq, Prod.mk.injEq] at h; obtain ⟨rfl, rfl, rfl⟩ := h; exact ⟨β', u', l, .ret, hs', b', rfl, hm'⟩
      | panic hv => simp only [Option.some.injEq, Prod.mk.injEq] at h; obtain ⟨rfl, rfl, rfl⟩ := h; exact ⟨β', u', l, .panic hv, hs', b', rfl, hm'⟩
  | cond c x y ihx ihy =>
    intro p s e p' s' h β a w c0 cs hs hm
    simp only [codeS] at h
    split at h
    · rename_i t hc
      refine wpS_cond (eval_bool hs.fr hc) ?_
      cases t with
      | true => exact ihx p s e p' s' (by simpa using h) β a w c0 cs hs hm
      | false => exact ihy p s e p' s' (by simpa using h) β a w c0 cs hs hm
    · cases h
  | region id ops draw =>
    intro p s e p' s' h β a w c0 cs hs hm
    simp only [codeS] at h
    split at h
    · exact other _ p s e p' s' h β a w c0 cs hs hm
    · rename_i hd
      have hdr : draw = false := by cases draw <;> simp_all
      subst hdr
      refine wpS_region ?_
      have := runOpsS_sound hN hcl ops X base w β c0 cs e p' s' ops.toList 0 s p β a c0.mode w (by simp) h (Le.refl β) hs hm (Below.refl _ _)
      simpa [List.range_eq_range'] using this
  | _ => intro p s e p' s' h; exact other _ p s e p' s' (by simpa only [codeS] using h)
end
end Go.Am
namespace Go.Am
open Go.RowKit
section
variable {P : Program}
def UR (β : Ren) (p : Option Value) (u : FrameMode) : Prop :=
  match p with
  | none => u = .returning
  | some v => ∃ v', u = .panicking [{ v := v', recovered := false }] ∧ VR β v v'
theorem UR.mr {β : Ren} {p : Option Value} {u : FrameMode} (h : UR β p u) : MR β p u := by
  cases p with
  | none => exact .inl h
  | some v => exact h
theorem MR.settle {β : Ren} {p : Option Value} {u : FrameMode} (h : MR β p u) : UR β p (settle u) := by
  cases p with
  | none =>
    rcases h with rfl | ⟨v', rfl⟩
    · rfl
    · rfl
  | some v =>
    obtain ⟨v', rfl, r⟩ := h
    exact ⟨v', rfl, r⟩
theorem unwind_sound {cl : Cl} {ex : CodeRun} (hN : NameOk P) (hcl : SoundK P cl) (hx : SoundX P ex) (fn : Func) (X : XF) (base : Nat) (r : CR) (HE : Heap) (β0 : Ren) (w0 : World) :
    ∀ (ds : List Deferred) (p : Option Value) (H : Heap) (s : St) (β : Ren) (a : Act) (ds' : List Deferred) (u : FrameMode) (w : World), unwindA P cl ex fn s ds p H = some (r, HE) → Le β0 β → FR β s a → DL β ds ds' →
      HR β H X base w → UR β p u → Below base w0 w → Leaves P fn a.tmps (CPost β0 X base w0 r HE) ds' u w := by
  intro ds
  induction ds with
  | nil =>
    intro p H s β a ds' u w h l hf hd hr hu b
    cases hd
    cases p with
    | none =>
      obtain rfl := hu
      simp only [unwindA] at h
      obtain ⟨v, hv, e⟩ := map_some h
      cases e
      obtain ⟨v', e1, rv⟩ := results_sound (s := { s with H := HE }) (a := a) hf hr hv
      exact ⟨v', e1, β, l, hr, b, v', rfl, rv⟩
    | some v =>
      obtain ⟨v', rfl, rv⟩ := hu
      simp only [unwindA, Option.some.injEq, Prod.mk.injEq] at h
      obtain ⟨rfl, rfl⟩ := h
      exact ⟨β, l, hr, b, v', rfl, rv⟩
  | cons d ds ih =>
    intro p H s β a ds' u w h l hf hd hr hu b
    cases hd with
    | cons hdr hdl =>
      rename_i d' ds2
      obtain ⟨g, c, c', ht, ht', rc, ra⟩ := hdr
      simp only [unwindA, ht] at h
      obtain ⟨gn, hgn, h1⟩ := bind_some h
      obtain ⟨body, hbody, h2⟩ := bind_some h1
      obtain ⟨⟨e, p', s'⟩, hcs, h3⟩ := bind_some h2
      have hinv : (invoke d'.target d'.args).run P w = .ok (.enter g (d'.args ++ c')) w := by
        have hnm := hN g gn hgn
        rw [ht']
        have hb2 : gn.body.isNone = false := by rw [hbody]; rfl
        simp only [invoke, callFunc, Sem.run_bind, run_program, Result.andThen_ok]
        rw [hgn]
        simp only [hnm, hb2, Bool.false_eq_true, if_false, Sem.run_pure]
      have hune : u ≠ .run := by
        cases p with
        | none => obtain rfl := hu; intro e; cases e
        | some v => obtain ⟨v', rfl, _⟩ := hu; intro e; cases e
      obtain ⟨t', as'⟩ := d'
      simp only at ht' hinv
      subst ht'
      refine leaves_cons hune hinv ?_
      refine callsD_of_wpS hgn hbody fun c0 cs hc0 => ?_
      have hargs : LR β (d.args ++ c).toList (as' ++ c').toList := by simp only [Array.toList_append]; exact ra.append rc
      have hSR : SR β X base (enterA gn (d.args ++ c) H) { tmps := as' ++ c' ++ Array.replicate (gn.ntmps - (as' ++ c').size) undef, defers := [] } w :=
        ⟨enter_FR hargs [], .nil, hr⟩
      have hw := codeS_sound hN hcl hx X base body p _ e p' s' hcs β _ w c0 cs hSR (by rw [hc0]; exact hu.mr)
      intro b3 k3 hb3 hr3
      obtain ⟨e2, a2, cs2, w2, hp, harr⟩ := hw b3 k3 hb3 hr3
      refine ⟨e2, a2, cs2, w2, ?_, harr⟩
      obtain ⟨β', u', l', he, hs', b', rfl, hm⟩ := hp
      have hend : e = .normal ∨ e = .ret := by
        cases e with
        | normal => exact .inl rfl
        | ret => exact .inr rfl
        | _ => cases h3
      have h4 : (if s'.d.isEmpty then (do let _ ← resultsA P gn s'; unwindA P cl ex fn s ds p' s'.H) else none) = some (r, HE) := by
        rcases hend with rfl | rfl <;> exact h3
      split at h4
      case isFalse => cases h4
      rename_i hde
      obtain ⟨v, hv, h5⟩ := bind_some h4
      have hdn : a2.defers = [] := by
        have hh := hs'.df
        have hz : s'.d = [] := by simpa using hde
        rw [hz] at hh
        generalize a2.defers = q at hh
        cases hh
        rfl
      obtain ⟨v', e1, _⟩ := results_sound hs'.fr hs'.hr hv
      have hfin : Leaves P fn a.tmps (CPost β0 X base w0 r HE) ds2 (settle u') w2 :=
        ih p' s'.H s β' a ds2 (settle u') w2 h5 (l.trans l') (hf.mono l') (hdl.mono l') hs'.hr hm.settle (b.trans b')
      rcases hend with rfl | rfl
      · cases he; exact ⟨hdn, u', rfl, v', e1, hfin⟩
      · cases he; exact ⟨hdn, u', rfl, v', e1, hfin⟩
theorem callA_sound {cl : Cl} {ex : CodeRun} (hN : NameOk P) (hcl : SoundK P cl) (hx : SoundX P ex) : SoundK P (callA P cl ex) := by
  intro f args H r H' h
  unfold callA at h
  obtain ⟨fn, hfn, h1⟩ := bind_some h
  obtain ⟨c, hc, h2⟩ := bind_some h1
  obtain ⟨⟨e, s⟩, hes, h3⟩ := bind_some h2
  refine ⟨⟨fn, hfn, by rw [hc]; rfl⟩, fun β X base w args' ha hr => ?_⟩
  refine calls_of_wp_defers hfn hc ?_
  have hSR : SR β X base (enterA fn args H) { tmps := args' ++ Array.replicate (fn.ntmps - args'.size) undef, defers := [] } w := ⟨enter_FR ha [], .nil, hr⟩
  refine wp_mono (hx c _ e s hes β X base _ w hSR).1 ?_
  rintro e2 a2 w2 ⟨β', l, he, hs, b⟩
  cases he with
  | normal => exact unwind_sound hN hcl hx fn X base r H' β w s.d none s.H s β' a2 a2.defers .returning w2 h3 l hs.fr hs.df hs.hr rfl b
  | ret => exact unwind_sound hN hcl hx fn X base r H' β w s.d none s.H s β' a2 a2.defers .returning w2 h3 l hs.fr hs.df hs.hr rfl b
  | exit id => cases h3
  | panic hv =>
    rename_i v v'
    simp only at h3
    split at h3
    · exact unwind_sound hN hcl hx fn X base r H' β w s.d (some v) s.H s β' a2 a2.defers _ w2 h3 l hs.fr hs.df hs.hr ⟨v', rfl, hv⟩ b
    · cases h3
theorem lvl_sound (hN : NameOk P) (hD : ∀ cl, SoundK P cl → SoundD P cl) : ∀ k, SoundX P (lvl P k).1 ∧ SoundK P (lvl P k).2
  | 0 => ⟨(fun c s e s' h => by cases h), (fun f args H r H' h => by cases h)⟩
  | k + 1 => by
    obtain ⟨h1, h2⟩ := lvl_sound hN hD k
    exact ⟨stepC_sound hN h2 (hD _ h2) h1, callA_sound hN h2 h1⟩
end
end Go.Am
namespace Go.Am
open Go.RowKit
theorem bytes_eq {s t : ByteArray} (h : (s == t) = true) : s = t := by
  rw [beq_toListBytes, ByteArray.toList_eq, ByteArray.toList_eq] at h
  have h' := eq_of_beq h
  cases s
  cases t
  congr 1
  exact Array.ext' h'
mutual
theorem veq_eq : ∀ (v u : Value), veq v u = true → v = u
  | .bool a, u, h => by cases u <;> simp [veq] at h; rw [h]
  | .int k a, u, h => by cases u <;> simp [veq] at h; rw [h.1, h.2]
  | .float k a, u, h => by cases u <;> simp [veq] at h; rw [h.1, h.2]
  | .complex k a b, u, h => by cases u <;> simp [veq] at h; rw [h.1.1, h.1.2, h.2]
  | .string s, u, h => by
    cases u <;> simp [veq] at h
    rw [bytes_eq h]
  | .pointer a, u, h => by cases u <;> simp [veq] at h; rw [h]
  | .slice a l c, u, h => by cases u <;> simp [veq] at h; obtain ⟨⟨rfl, rfl⟩, rfl⟩ := h; rfl
  | .map a, u, h => by cases u <;> simp [veq] at h; rw [h]
  | .chan a, u, h => by cases u <;> simp [veq] at h; rw [h]
  | .func f x y, u, h => by
    cases u <;> simp [veq] at h
    obtain ⟨⟨rfl, h1⟩, h2⟩ := h
    rw [veqA_eq _ _ h1, veqA_eq _ _ h2]
  | .nilFunc, u, h => by cases u <;> simp [veq] at h; rfl
  | .iface t v, u, h => by
    cases u <;> simp [veq] at h
    obtain ⟨rfl, h1⟩ := h
    rw [veq_eq _ _ h1]
  | .nilIface, u, h => by cases u <;> simp [veq] at h; rfl
  | .agg x, u, h => by
    cases u <;> simp [veq] at h
    rw [veqA_eq _ _ h]
  | .tuple x, u, h => by
    cases u <;> simp [veq] at h
    rw [veqA_eq _ _ h]
theorem veqA_eq : ∀ (v u : Array Value), veqA v u = true → v = u
  | ⟨x⟩, ⟨y⟩, h => by simp only [veqA] at h; rw [veqL_eq x y h]
theorem veqL_eq : ∀ (v u : List Value), veqL v u = true → v = u
  | [], u, h => by cases u <;> simp [veqL] at h; rfl
  | x :: xs, u, h => by
    cases u with
    | nil => simp [veqL] at h
    | cons y ys =>
      simp only [veqL, Bool.and_eq_true] at h
      rw [veq_eq x y h.1, veqL_eq xs ys h.2]
end
section
variable {P : Program}
theorem mapM_congr' {ev ev' : Operand → Option Value} : ∀ (l : List Operand), (∀ x ∈ l, ev x = ev' x) → l.mapM ev = l.mapM ev'
  | [], _ => rfl
  | x :: xs, h => by
    rw [List.mapM_cons, List.mapM_cons, h x (by simp), mapM_congr' xs fun y hy => h y (by simp [hy])]
theorem parts_congr {ev ev' : Operand → Option Value} : ∀ (l : List (Nat × Operand)), (∀ p ∈ l, ev p.2 = ev' p.2) →
    (l.mapM fun (p : Nat × Operand) => (ev p.2).map (p.1, ·)) = l.mapM fun (p : Nat × Operand) => (ev' p.2).map (p.1, ·)
  | [], _ => rfl
  | x :: xs, h => by
    rw [List.mapM_cons, List.mapM_cons, h x (by simp), parts_congr xs fun y hy => h y (by simp [hy])]
theorem optM_congr {ev ev' : Operand → Option Value} (x : Option Operand) (h : ∀ y, x = some y → ev y = ev' y) : x.mapM ev = x.mapM ev' := by
  cases x with
  | none => rfl
  | some y => simp [Option.mapM, h y rfl]
theorem allocA_congr (o : Op) {ev ev' : Operand → Option Value} (h : ∀ x ∈ o.operands, ev x = ev' x) : allocA P o ev = allocA P o ev' := by
  cases o with
  | box t x => simp only [allocA]; rw [h x (by simp [Op.operands])]
  | buildSlice t n parts =>
    have := parts_congr parts.toList (ev := ev) (ev' := ev') fun p hp => h p.2 (by
      simp only [Op.operands]
      simp only [List.mem_toArray, List.mem_map]
      exact ⟨p, hp, rfl⟩)
    simp only [allocA]
    rw [this]
  | makeSlice t l c => simp only [allocA]; rw [h l (by simp [Op.operands]), h c (by simp [Op.operands])]
  | _ => rfl
theorem opA_congr (o : Oper) {ev ev' : Operand → Option Value} (H : Heap) (h : ∀ x ∈ o.op.operands, ev x = ev' x) : opA P o ev H = opA P o ev' H := by
  unfold opA
  rw [allocA_congr (P := P) o.op h]
  split
  · rfl
  cases ho : o.op with
  | move x => simp only [ho] at h ⊢; rw [h x (by simp [Op.operands])]
  | assign x => simp only [ho] at h ⊢; rw [h x (by simp [Op.operands])]
  | pick c x y => simp only [ho] at h ⊢; rw [h c (by simp [Op.operands]), h x (by simp [Op.operands]), h y (by simp [Op.operands])]
  | build t parts =>
    rw [ho] at h
    have := parts_congr parts.toList (ev := ev) (ev' := ev') fun p hp => h p.2 (by
      simp only [Op.operands]
      simp only [List.mem_toArray, List.mem_map]
      exact ⟨p, hp, rfl⟩)
    simp only
    rw [this]
  | load t x => simp only [ho] at h ⊢; rw [h x (by simp [Op.operands])]
  | store t x y => simp only [ho] at h ⊢; rw [h x (by simp [Op.operands]), h y (by simp [Op.operands])]
  | nilCheck x => simp only [ho] at h ⊢; rw [h x (by simp [Op.operands])]
  | binOp op t x y u => simp only [ho] at h ⊢; rw [h x (by simp [Op.operands]), h y (by simp [Op.operands])]
  | unOp op t x => simp only [ho] at h ⊢; rw [h x (by simp [Op.operands])]
  | convert s t x => simp only [ho] at h ⊢; rw [h x (by simp [Op.operands])]
  | makeInterface t x => simp only [ho] at h ⊢; rw [h x (by simp [Op.operands])]
  | makeFunc fn x y =>
    simp only [ho] at h ⊢
    rw [mapM_congr' (ev := ev) (ev' := ev') x.toList fun z hz => h z (by simp [Op.operands]; exact .inl (by simpa using hz)),
      mapM_congr' (ev := ev) (ev' := ev') y.toList fun z hz => h z (by simp [Op.operands]; exact .inr (by simpa using hz))]
  | slice t x lo hi mx =>
    simp only [ho] at h ⊢
    rw [h x (by simp [Op.operands]), optM_congr (ev := ev) (ev' := ev') lo fun y hy => h y (by simp [Op.operands, hy]), optM_congr (ev := ev) (ev' := ev') hi fun y hy => h y (by simp [Op.operands, hy]),
      optM_congr (ev := ev) (ev' := ev') mx fun y hy => h y (by simp [Op.operands, hy])]
  | fieldAddr s x f => simp only [ho] at h ⊢; rw [h x (by simp [Op.operands])]
  | field s x f => simp only [ho] at h ⊢; rw [h x (by simp [Op.operands])]
  | indexAddr t x y => simp only [ho] at h ⊢; rw [h x (by simp [Op.operands]), h y (by simp [Op.operands])]
  | index t x y => simp only [ho] at h ⊢; rw [h x (by simp [Op.operands]), h y (by simp [Op.operands])]
  | typeAssert x a b c => simp only [ho] at h ⊢; rw [h x (by simp [Op.operands])]
  | extract x i => simp only [ho] at h ⊢; rw [h x (by simp [Op.operands])]
  | call c =>
    simp only [ho] at h ⊢
    have ha := mapM_congr' (ev := ev) (ev' := ev') c.args.toList fun z hz => h z (by simp [Op.operands, Call.operands]; right; simpa using hz)
    cases hc : c.callee with
    | builtin b => simp only [ha]
    | value f => simp only [ha]; rw [h f (by simp [Op.operands, Call.operands, hc])]
    | invoke x m => rfl
  | defer c =>
    simp only [ho] at h ⊢
    have ha := mapM_congr' (ev := ev) (ev' := ev') c.args.toList fun z hz => h z (by simp [Op.operands, Call.operands]; right; simpa using hz)
    cases hc : c.callee with
    | value f => simp only [ha]; rw [h f (by simp [Op.operands, Call.operands, hc])]
    | _ => rfl
  | panic x => simp only [ho] at h ⊢; rw [h x (by simp [Op.operands])]
  | _ => rfl
theorem quiet_indep {o : Oper} (hk : kdA o = .quiet) {ev : Operand → Option Value} {H H1 : Heap} {r : R} (h : opA P o ev H = some (r, H1)) : H1 = H ∧ ∀ H2, opA P o ev H2 = some (r, H2) := by
  obtain ⟨dst, op, ty, pos, after, guard⟩ := o
  cases op <;> first | (simp [kdA] at hk; done) | skip
  all_goals (unfold opA at h ⊢; simp only [isAlloc, Bool.false_eq_true, if_false] at h ⊢)
  case move x => obtain ⟨v, hv, h1⟩ := bind_some h; cases h1; exact ⟨rfl, fun H2 => by simp [hv]⟩
  case assign x => obtain ⟨v, hv, h1⟩ := bind_some h; cases h1; exact ⟨rfl, fun H2 => by simp [hv]⟩
  case pick c x y =>
    obtain ⟨vc, hvc, h1⟩ := bind_some h
    cases vc with
    | bool b =>
      cases b with
      | true =>
        have h2 : (do some (R.val (← ev x), H)) = some (r, H1) := h1
        obtain ⟨v, hv, h3⟩ := bind_some h2
        cases h3
        exact ⟨rfl, fun H2 => by simp [hvc, hv]⟩
      | false =>
        have h2 : (do some (R.val (← ev y), H)) = some (r, H1) := h1
        obtain ⟨v, hv, h3⟩ := bind_some h2
        cases h3
        exact ⟨rfl, fun H2 => by simp [hvc, hv]⟩
    | _ => cases h1
  case build t ps =>
    obtain ⟨v, hv, h1⟩ := bind_some h
    obtain ⟨u, hu, h2⟩ := bind_some h1
    cases h2
    exact ⟨rfl, fun H2 => by rw [hv]; simp [hu]⟩
  case nilCheck x =>
    obtain ⟨v, hv, h1⟩ := bind_some h
    rw [hv]
    cases v with
    | pointer q => cases q with
      | none => cases h1
      | some q => cases h1; exact ⟨rfl, fun H2 => rfl⟩
    | func f a c => cases f with
      | func f => cases h1; exact ⟨rfl, fun H2 => rfl⟩
      | _ => cases h1
    | iface t v => cases h1; exact ⟨rfl, fun H2 => rfl⟩
    | _ => cases h1
  case binOp op t x y u =>
    obtain ⟨vx, hvx, h1⟩ := bind_some h
    obtain ⟨vy, hvy, h2⟩ := bind_some h1
    split at h2
    case isFalse => cases h2
    rename_i hg
    obtain ⟨q, hq, h3⟩ := bind_some h2
    cases h3
    exact ⟨rfl, fun H2 => by simp [hvx, hvy, hg, hq]⟩
  case unOp op t x =>
    obtain ⟨v, hv, h1⟩ := bind_some h
    obtain ⟨u, hu, h2⟩ := bind_some h1
    cases h2
    exact ⟨rfl, fun H2 => by simp [hv, hu]⟩
  case convert s t x =>
    obtain ⟨v, hv, h1⟩ := bind_some h
    obtain ⟨u, hu, h2⟩ := bind_some h1
    cases h2
    exact ⟨rfl, fun H2 => by simp [hv, hu]⟩
  case makeInterface t x =>
    obtain ⟨v, hv, h1⟩ := bind_some h
    obtain ⟨u, hu, h2⟩ := bind_some h1
    cases h2
    exact ⟨rfl, fun H2 => by simp [hv, hu]⟩
  case makeFunc fn x y =>
    obtain ⟨v, hv, h1⟩ := bind_some h
    obtain ⟨u, hu, h2⟩ := bind_some h1
    cases h2
    exact ⟨rfl, fun H2 => by rw [hv]; simp [hu]⟩
  case fieldAddr s x f =>
    obtain ⟨v, hv, h1⟩ := bind_some h
    obtain ⟨u, hu, h2⟩ := bind_some h1
    cases h2
    exact ⟨rfl, fun H2 => by simp [hv, hu]⟩
  case field s x f =>
    obtain ⟨v, hv, h1⟩ := bind_some h
    obtain ⟨u, hu, h2⟩ := bind_some h1
    cases h2
    exact ⟨rfl, fun H2 => by simp [hv, hu]⟩
  case indexAddr t x y =>
    obtain ⟨v, hv, h1⟩ := bind_some h
    obtain ⟨i, hi, h2⟩ := bind_some h1
    obtain ⟨u, hu, h3⟩ := bind_some h2
    cases h3
    exact ⟨rfl, fun H2 => by simp [hv, hi, hu]⟩
  case index t x y =>
    obtain ⟨v, hv, h1⟩ := bind_some h
    obtain ⟨i, hi, h2⟩ := bind_some h1
    obtain ⟨u, hu, h3⟩ := bind_some h2
    cases h3
    exact ⟨rfl, fun H2 => by simp [hv, hi, hu]⟩
  case typeAssert x a b c =>
    obtain ⟨v, hv, h1⟩ := bind_some h
    obtain ⟨u, hu, h2⟩ := bind_some h1
    cases h2
    exact ⟨rfl, fun H2 => by simp [hv, hu]⟩
  case extract x i =>
    obtain ⟨v, hv, h1⟩ := bind_some h
    obtain ⟨u, hu, h2⟩ := bind_some h1
    cases h2
    exact ⟨rfl, fun H2 => by simp [hv, hu]⟩
  case call c =>
    obtain ⟨callee, args, ts⟩ := c
    cases callee with
    | builtin b =>
      obtain ⟨vs, hvs, h1⟩ := bind_some h
      obtain ⟨q, hq, h2⟩ := bind_some h1
      cases h2
      simp only [hvs]
      cases b <;> first | (simp [kdA] at hk; done) | skip
      case len =>
        match vs with
        | [x] =>
          obtain ⟨t, ht, h3⟩ := bind_some hq
          obtain ⟨u, hu, e⟩ := map_some h3
          cases e
          exact ⟨rfl, fun H2 => by simp [builtinA, ht, hu]⟩
        | [] => cases hq
        | _ :: _ :: _ => cases hq
      case min =>
        match vs with
        | [x, y] =>
          obtain ⟨u, hu, e⟩ := map_some hq
          cases e
          exact ⟨rfl, fun H2 => by simp [builtinA, hu]⟩
        | [] => cases hq
        | [_] => cases hq
        | _ :: _ :: _ :: _ => cases hq
      case max =>
        match vs with
        | [x, y] =>
          obtain ⟨u, hu, e⟩ := map_some hq
          cases e
          exact ⟨rfl, fun H2 => by simp [builtinA, hu]⟩
        | [] => cases hq
        | [_] => cases hq
        | _ :: _ :: _ :: _ => cases hq
    | _ => simp [kdA] at hk
theorem read_same {o : Oper} (hk : kdA o = .read) {ev : Operand → Option Value} {H H1 : Heap} {r : R} (h : opA P o ev H = some (r, H1)) : H1 = H ∧ ∃ v, r = .val v := by
  obtain ⟨dst, op, ty, pos, after, guard⟩ := o
  cases op <;> first | (simp [kdA] at hk; done) | skip
  all_goals (unfold opA at h; simp only [isAlloc, Bool.false_eq_true, if_false] at h)
  case load t x =>
    obtain ⟨v, hv, h1⟩ := bind_some h
    obtain ⟨u, hu, h2⟩ := bind_some h1
    cases h2
    exact ⟨rfl, u, rfl⟩
  case slice t x lo hi mx =>
    obtain ⟨v, hv, h1⟩ := bind_some h
    obtain ⟨vl, hvl, h2⟩ := bind_some h1
    obtain ⟨vh, hvh, h3⟩ := bind_some h2
    obtain ⟨vm, hvm, h4⟩ := bind_some h3
    obtain ⟨u, hu, h5⟩ := bind_some h4
    cases h5
    exact ⟨rfl, u, rfl⟩
  case call c =>
    obtain ⟨callee, args, ts⟩ := c
    cases callee with
    | builtin b => cases b <;> simp [kdA] at hk
    | _ => simp [kdA] at hk
end
end Go.Am
namespace Go.Am
open Go.RowKit
section
variable {P : Program} {cl : Cl} {ops : Array Oper} {b : Array Nat} {r0 : Nat}
theorem runD_trace : ∀ (rest : List Oper) (i : Nat) (x y : DS), ops.toList.drop i = rest → runD P cl ops b r0 i rest x = some y →
    ∃ T : Nat → DS, T i = x ∧ T (i + rest.length) = y ∧ ∀ j o, i ≤ j → ops[j]? = some o → stepD P cl ops b r0 j o (T j) = some (T (j + 1))
  | [], i, x, y, hd, h => by
    simp only [runD, Option.some.injEq] at h
    refine ⟨fun _ => x, rfl, h, fun j o hj ho => ?_⟩
    have hl : ops.size ≤ i := by simpa using hd
    rw [Array.getElem?_eq_none (by omega)] at ho
    cases ho
  | o :: rest, i, x, y, hd, h => by
    simp only [runD] at h
    obtain ⟨x1, h1, h2⟩ := bind_some (x := stepD P cl ops b r0 i o x) h
    have hk : ops[i]? = some o := by
      have : (ops.toList.drop i)[0]? = some o := by rw [hd]; rfl
      simpa [List.getElem?_drop] using this
    have hd' : ops.toList.drop (i + 1) = rest := by rw [← List.drop_drop, hd]; rfl
    obtain ⟨T, t1, t2, t3⟩ := runD_trace rest (i + 1) x1 y hd' h2
    refine ⟨fun j => if j = i then x else T j, by simp, ?_, fun j o' hj ho => ?_⟩
    · simp only [List.length_cons]
      rw [if_neg (by omega)]
      rw [show i + (rest.length + 1) = i + 1 + rest.length by omega]
      exact t2
    · by_cases e : j = i
      · subst e
        rw [hk] at ho
        cases ho
        simp only [if_true]
        rw [if_neg (by omega), t1]
        exact h1
      · simp only [if_neg e]
        rw [if_neg (by omega)]
        exact t3 j o' (by omega) ho
inductive StepK (P : Program) (cl : Cl) (ops : Array Oper) (b : Array Nat) (r0 i : Nat) (o : Oper) (x y : DS) : Prop
  | dis (hw : wantedA o ops x.s = false) (hy : y = { x with s := x.s.put o.dst undef })
  | qui (hw : wantedA o ops x.s = true) (hk : kdA o = .quiet) (v : Value) (H1 : Heap) (h : opA P o x.s.ev x.s.H = some (.val v, H1)) (hy : y = { x with s := x.s.put o.dst v })
  | all (hw : wantedA o ops x.s = true) (hk : kdA o = .alloc) (r : (Nat → Value) × Blk) (h : allocA P o.op x.s.ev = some r)
      (hy : y = { x with s := x.s.put o.dst (r.1 (r0 + i)), A := x.A ++ [(i, r.2)] })
  | rea (hw : wantedA o ops x.s = true) (hk : kdA o = .read) (v : Value) (h : readsA P r0 b x.A i o x.s x.s.H = some v) (hb : backA P r0 b x.A i o x.s v x.cs x.hist = true)
      (hy : y = { x with s := x.s.put o.dst v, rd := (i, o, x.s, v) :: x.rd })
  | cha (hw : wantedA o ops x.s = true) (hk : kdA o = .chain) (hcs : x.cs.all (ancA b i) = true) (s' : St)
      (h : doOp P cl o { x.s with H := layA r0 x.s.H (x.A.filter fun p => ancA b i p.1) } = some (.normal, s'))
      (hrd : (x.rd.all fun (k, ok, sk, v) => ancA b i k || (match readsA P r0 b (x.A.filter fun p => !ancA b i p.1) k ok sk s'.H with | some u => veq u v | none => false)) = true)
      (hy : y = { s := s', A := x.A.filter fun p => !ancA b i p.1, hist := x.s.H :: x.hist, cs := i :: x.cs, rd := x.rd })
theorem stepK {i : Nat} {o : Oper} {x y : DS} (h : stepD P cl ops b r0 i o x = some y) : StepK P cl ops b r0 i o x y := by
  unfold stepD at h
  split at h
  · rename_i hw
    split at h
    · rename_i hk
      obtain ⟨⟨r, H1⟩, hr, h1⟩ := bind_some h
      cases r with
      | val v => cases h1; exact .qui hw hk v H1 hr rfl
      | _ => cases h1
    · rename_i hk
      obtain ⟨r, hr, h1⟩ := bind_some h
      cases h1
      exact .all hw hk r hr rfl
    · rename_i hk
      obtain ⟨v, hv, h1⟩ := bind_some h
      split at h1
      · rename_i hb; cases h1; exact .rea hw hk v hv hb rfl
      · cases h1
    · rename_i hk
      split at h
      · rename_i hcs
        obtain ⟨⟨e, s'⟩, hs, h1⟩ := bind_some h
        cases e with
        | normal =>
          dsimp only at h1
          split at h1
          · rename_i hrd; cases h1; exact .cha hw hk hcs s' hs hrd rfl
          · cases h1
        | _ => cases h1
      · cases h
  · rename_i hw
    cases h
    exact .dis (by simpa using hw) rfl
theorem doOp_shape {o : Oper} {s s' : St} (h : doOp P cl o s = some (.normal, s')) :
    ∃ v H' d', s' = ({ s with H := H', d := d' } : St).put o.dst v ∧ ∀ s2 : St, (∀ x ∈ o.op.operands, s2.ev x = s.ev x) → s2.H = s.H → s2.d = s.d →
      doOp P cl o s2 = some (.normal, ({ s2 with H := H', d := d' } : St).put o.dst v) := by
  unfold doOp at h
  obtain ⟨⟨r, H⟩, hr, h1⟩ := bind_some h
  have hc : ∀ s2 : St, (∀ x ∈ o.op.operands, s2.ev x = s.ev x) → s2.H = s.H → opA P o s2.ev s2.H = some (r, H) := by
    intro s2 he hH
    rw [hH, opA_congr o s.H he, hr]
  cases r with
  | val v =>
    cases h1
    exact ⟨v, H, s.d, rfl, fun s2 he hH hd => by unfold doOp; rw [hc s2 he hH]; simp [← hd]⟩
  | dfr d =>
    cases h1
    exact ⟨undef, H, d :: s.d, rfl, fun s2 he hH hd => by unfold doOp; rw [hc s2 he hH]; simp [← hd]⟩
  | pan v => cases h1
  | call f args =>
    obtain ⟨⟨q, H2⟩, hq, h2⟩ := bind_some h1
    cases q with
    | ret v =>
      cases h2
      exact ⟨v, H2, s.d, rfl, fun s2 he hH hd => by unfold doOp; rw [hc s2 he hH]; simp [hq, ← hd]⟩
    | pan v => cases h2
@[simp] theorem slot_put_ne (s : St) (dst : Option Tmp) (v : Value) (t : Tmp) (h : dst ≠ some t) : (s.put dst v).slot t = s.slot t := by
  cases dst with
  | none => rfl
  | some d =>
    have hd : t ≠ d := fun e => h (by rw [e])
    simp only [St.put]
    split
    · simp [St.slot, Tr.get_put, hd]
    · rfl
theorem get_put_none (s : St) (dst : Option Tmp) (v : Value) (t : Nat) (ht : s.n ≤ t) (h : s.f.get t = none) : (s.put dst v).f.get t = none := by
  cases dst with
  | none => exact h
  | some d =>
    simp only [St.put]
    split
    · rename_i hd
      have hne : t ≠ d := by intro e; subst e; exact absurd hd (Nat.not_lt.2 ht)
      simp [Tr.get_put, hne, h]
    · exact h
theorem StepK.slots {i : Nat} {o : Oper} {x y : DS} (h : StepK P cl ops b r0 i o x y) :
    y.s.n = x.s.n ∧ (∀ t, x.s.n ≤ t → x.s.f.get t = none → y.s.f.get t = none) ∧ (∀ t, o.dst ≠ some t → y.s.slot t = x.s.slot t) := by
  cases h with
  | dis hw hy => subst hy; exact ⟨by simp, fun t ht hn => get_put_none _ _ _ t ht hn, fun t ht => slot_put_ne _ _ _ t ht⟩
  | qui hw hk v H1 h hy => subst hy; exact ⟨by simp, fun t ht hn => get_put_none _ _ _ t ht hn, fun t ht => slot_put_ne _ _ _ t ht⟩
  | all hw hk r h hy => subst hy; exact ⟨by simp, fun t ht hn => get_put_none _ _ _ t ht hn, fun t ht => slot_put_ne _ _ _ t ht⟩
  | rea hw hk v h hb hy => subst hy; exact ⟨by simp, fun t ht hn => get_put_none _ _ _ t ht hn, fun t ht => slot_put_ne _ _ _ t ht⟩
  | cha hw hk hcs s' h hrd hy =>
    subst hy
    obtain ⟨v, H', d', rfl, _⟩ := doOp_shape h
    exact ⟨by simp, fun t ht hn => get_put_none _ _ _ t ht hn, fun t ht => slot_put_ne _ _ _ t ht⟩
def chB (ops : Array Oper) (T : Nat → DS) (i : Nat) : Bool := match ops[i]? with
  | some o => wantedA o ops (T i).s && (kdA o == .chain)
  | none => false
def alB (ops : Array Oper) (T : Nat → DS) (i : Nat) : Bool := match ops[i]? with
  | some o => wantedA o ops (T i).s && (kdA o == .alloc)
  | none => false
def blkO (P : Program) (ops : Array Oper) (T : Nat → DS) (i : Nat) : Option Blk := match ops[i]? with
  | some o => (allocA P o.op (T i).s.ev).map (·.2)
  | none => none
def cur (ops : Array Oper) (T : Nat → DS) (D : Nat → Bool) : Nat → Tmp → Value
  | 0, t => (T 0).s.slot t
  | i + 1, t => if D i = true ∧ (ops[i]?).bind (·.dst) = some t then (T (i + 1)).s.slot t else cur ops T D i t
def mOf (ops : Array Oper) (T : Nat → DS) (D : Nat → Bool) : Nat → Nat
  | 0 => 0
  | i + 1 => if D i = true ∧ chB ops T i = true then i + 1 else mOf ops T D i
structure Tra (P : Program) (cl : Cl) (ops : Array Oper) (b : Array Nat) (r0 : Nat) (T : Nat → DS) (N : Nat) : Prop where
  step : ∀ j o, ops[j]? = some o → StepK P cl ops b r0 j o (T j) (T (j + 1))
  n0 : (T 0).s.n = N
  f0 : ∀ t, N ≤ t → (T 0).s.f.get t = none
  A0 : (T 0).A = []
  h0 : (T 0).hist = []
  c0 : (T 0).cs = []
  d0 : (T 0).rd = []
variable {T : Nat → DS} {N : Nat}
theorem op_at {i : Nat} (hi : i < ops.size) : ops[i]? = some ops[i] := Array.getElem?_eq_getElem hi
theorem Tra.n (h : Tra P cl ops b r0 T N) : ∀ i, i ≤ ops.size → (T i).s.n = N ∧ ∀ t, N ≤ t → (T i).s.f.get t = none
  | 0, _ => ⟨h.n0, h.f0⟩
  | i + 1, hi => by
    obtain ⟨h1, h2⟩ := Tra.n h i (by omega)
    obtain ⟨k1, k2, _⟩ := (h.step i _ (op_at (by omega))).slots
    exact ⟨k1.trans h1, fun t ht => k2 t (by rw [h1]; exact ht) (h2 t ht)⟩
theorem Tra.cur (h : Tra P cl ops b r0 T N) : ∀ i, i ≤ ops.size → ∀ t, (T i).s.slot t = cur ops T (fun _ => true) i t
  | 0, _, t => rfl
  | i + 1, hi, t => by
    simp only [Am.cur, op_at (show i < ops.size by omega), Option.bind_some, true_and]
    split
    · rfl
    · rename_i hd
      rw [← Tra.cur h i (by omega) t]
      exact (h.step i _ (op_at (by omega))).slots.2.2 t hd
theorem StepK.still {i : Nat} {o : Oper} {x y : DS} (h : StepK P cl ops b r0 i o x y) (hn : (wantedA o ops x.s && (kdA o == .chain)) = false) :
    y.s.H = x.s.H ∧ y.s.d = x.s.d ∧ y.cs = x.cs ∧ y.hist = x.hist := by
  cases h with
  | dis hw hy => subst hy; simp
  | qui hw hk v H1 h hy => subst hy; simp
  | all hw hk r h hy => subst hy; simp
  | rea hw hk v h hb hy => subst hy; simp
  | cha hw hk hcs s' h hrd hy => rw [hw, hk] at hn; simp at hn
theorem Tra.still (h : Tra P cl ops b r0 T N) {i : Nat} (hi : i < ops.size) (hn : chB ops T i = false) :
    (T (i + 1)).s.H = (T i).s.H ∧ (T (i + 1)).s.d = (T i).s.d ∧ (T (i + 1)).cs = (T i).cs ∧ (T (i + 1)).hist = (T i).hist := by
  refine (h.step i _ (op_at hi)).still ?_
  unfold chB at hn
  rw [op_at hi] at hn
  exact hn
theorem Tra.between (h : Tra P cl ops b r0 T N) {m : Nat} : ∀ d, m + d ≤ ops.size → (∀ c, m ≤ c → c < m + d → chB ops T c = false) →
    (T (m + d)).s.H = (T m).s.H ∧ (T (m + d)).s.d = (T m).s.d
  | 0, _, _ => ⟨rfl, rfl⟩
  | d + 1, hd, hn => by
    obtain ⟨h1, h2⟩ := Tra.between h d (by omega) (fun c a b => hn c a (by omega))
    obtain ⟨k1, k2, _⟩ := h.still (i := m + d) (by omega) (hn (m + d) (by omega) (by omega))
    exact ⟨k1.trans h1, k2.trans h2⟩
theorem mOf_le (D : Nat → Bool) : ∀ k, mOf ops T D k ≤ k
  | 0 => Nat.le_refl _
  | k + 1 => by
    simp only [mOf]
    split
    · exact Nat.le_refl _
    · exact Nat.le_succ_of_le (mOf_le D k)
theorem mOf_spec (D : Nat → Bool) : ∀ k, (mOf ops T D k = 0 ∨ ∃ j, j < k ∧ mOf ops T D k = j + 1 ∧ D j = true ∧ chB ops T j = true) ∧ ∀ c, c < k → D c = true → chB ops T c = true → c < mOf ops T D k
  | 0 => ⟨.inl rfl, fun c hc => by omega⟩
  | k + 1 => by
    obtain ⟨h1, h2⟩ := mOf_spec D k
    simp only [mOf]
    split
    · rename_i hk
      exact ⟨.inr ⟨k, by omega, rfl, hk.1, hk.2⟩, fun c hc _ _ => hc⟩
    · rename_i hk
      refine ⟨?_, fun c hc hD hch => ?_⟩
      · rcases h1 with h1 | ⟨j, a, b, c, d⟩
        · exact .inl h1
        · exact .inr ⟨j, by omega, b, c, d⟩
      · by_cases e : c = k
        · subst e; exact absurd ⟨hD, hch⟩ hk
        · exact h2 c (by omega) hD hch
theorem mOf_none (D : Nat → Bool) (k c : Nat) (h1 : mOf ops T D k ≤ c) (h2 : c < k) (hD : D c = true) : chB ops T c = false := by
  cases h : chB ops T c with
  | false => rfl
  | true => have := (mOf_spec (ops := ops) (T := T) D k).2 c h2 hD h; omega
theorem Tra.atM (h : Tra P cl ops b r0 T N) {i : Nat} (hi : i ≤ ops.size) : (T i).s.H = (T (mOf ops T (fun _ => true) i)).s.H ∧ (T i).s.d = (T (mOf ops T (fun _ => true) i)).s.d := by
  have hle := mOf_le (ops := ops) (T := T) (fun _ => true) i
  have := h.between (m := mOf ops T (fun _ => true) i) (i - mOf ops T (fun _ => true) i) (by omega) (fun c a b => mOf_none _ i c a (by omega) rfl)
  rwa [show mOf ops T (fun _ => true) i + (i - mOf ops T (fun _ => true) i) = i by omega] at this
theorem Tra.mem_cs (h : Tra P cl ops b r0 T N) : ∀ i, i ≤ ops.size → ∀ c, c ∈ (T i).cs ↔ c < i ∧ chB ops T c = true
  | 0, _, c => by simp [h.c0]
  | i + 1, hi, c => by
    have ih := Tra.mem_cs h i (by omega) c
    cases hc : chB ops T i with
    | false =>
      rw [(h.still (by omega) hc).2.2.1, ih]
      constructor
      · rintro ⟨a, b⟩; exact ⟨by omega, b⟩
      · rintro ⟨a, b⟩
        by_cases e : c = i
        · subst e; rw [hc] at b; cases b
        · exact ⟨by omega, b⟩
    | true =>
      have hs := h.step i _ (op_at (by omega))
      have hcc := hc
      unfold chB at hcc
      rw [op_at (by omega)] at hcc
      simp only [Bool.and_eq_true, beq_iff_eq] at hcc
      cases hs with
      | dis hw hy => rw [hw] at hcc; cases hcc.1
      | qui hw hk => rw [hk] at hcc; cases hcc.2
      | all hw hk => rw [hk] at hcc; cases hcc.2
      | rea hw hk => rw [hk] at hcc; cases hcc.2
      | cha hw hk hcs s' h' hrd hy =>
        rw [hy]
        simp only [List.mem_cons, ih]
        constructor
        · rintro (rfl | ⟨a, b⟩)
          · exact ⟨by omega, hc⟩
          · exact ⟨by omega, b⟩
        · rintro ⟨a, b⟩
          by_cases e : c = i
          · exact .inl e
          · exact .inr ⟨by omega, b⟩
end
end Go.Am
