/- An abstract machine over the model's programs: a deterministic evaluator without orders, capacities or block numbers of the world. Definitions alone; no condition. -/
import Derived.Recover
import Derived.Orders
set_option linter.all false
set_option linter.unusedSimpArgs false
set_option linter.unusedVariables false
namespace Go.Am

/- A trie over numbers. -/
inductive Tr (α : Type) where
  | nil
  | node (l : Tr α) (v : Option α) (r : Tr α)

namespace Tr
variable {α : Type}

def get : Tr α → Nat → Option α
  | .nil, _ => none
  | .node l v r, n => if n = 0 then v else if n % 2 = 1 then l.get (n / 2) else r.get (n / 2 - 1)

def putF : Nat → Tr α → Nat → Option α → Tr α
  | 0, t, _, _ => t
  | f + 1, .nil, n, x => if n = 0 then .node .nil x .nil else if n % 2 = 1 then .node (putF f .nil (n / 2) x) none .nil else .node .nil none (putF f .nil (n / 2 - 1) x)
  | f + 1, .node l v r, n, x => if n = 0 then .node l x r else if n % 2 = 1 then .node (putF f l (n / 2) x) v r else .node l v (putF f r (n / 2 - 1) x)

def put (t : Tr α) (n : Nat) (x : Option α) : Tr α := putF (n + 1) t n x

@[simp] theorem get_nil (n : Nat) : (Tr.nil : Tr α).get n = none := rfl

theorem get_node (l r : Tr α) (v : Option α) (n : Nat) : (Tr.node l v r).get n = if n = 0 then v else if n % 2 = 1 then l.get (n / 2) else r.get (n / 2 - 1) := rfl

theorem get_putF : ∀ (f : Nat) (t : Tr α) (n m : Nat) (x : Option α), n < f → (putF f t n x).get m = if m = n then x else t.get m := by
  intro f
  induction f with
  | zero => intro t n m x h; omega
  | succ f ih =>
    intro t n m x h
    cases t with
    | nil =>
      unfold putF
      by_cases h0 : n = 0
      · subst h0
        by_cases hm : m = 0 <;> simp [get_node, hm]
      · rw [if_neg h0]
        by_cases h1 : n % 2 = 1
        · rw [if_pos h1, get_node]
          by_cases hm : m = 0
          · subst hm
            rw [if_pos rfl, if_neg (by omega)]; rfl
          · rw [if_neg hm]
            by_cases hm1 : m % 2 = 1
            · rw [if_pos hm1, ih _ _ _ _ (by omega)]
              by_cases e : m = n
              · rw [if_pos e, if_pos (by omega)]
              · rw [if_neg e, if_neg (by omega)]; rfl
            · rw [if_neg hm1, if_neg (by intro e; subst e; exact hm1 h1)]; rfl
        · rw [if_neg h1, get_node]
          by_cases hm : m = 0
          · subst hm
            rw [if_pos rfl, if_neg (by omega)]; rfl
          · rw [if_neg hm]
            by_cases hm1 : m % 2 = 1
            · rw [if_pos hm1, if_neg (by intro e; subst e; exact h1 hm1)]; rfl
            · rw [if_neg hm1, ih _ _ _ _ (by omega)]
              by_cases e : m = n
              · rw [if_pos e, if_pos (by omega)]
              · rw [if_neg e, if_neg (by omega)]; rfl
    | node l v r =>
      unfold putF
      by_cases h0 : n = 0
      · subst h0
        by_cases hm : m = 0 <;> simp [get_node, hm]
      · rw [if_neg h0]
        by_cases h1 : n % 2 = 1
        · rw [if_pos h1, get_node, get_node]
          by_cases hm : m = 0
          · subst hm
            rw [if_pos rfl, if_neg (by omega), if_pos rfl]
          · rw [if_neg hm, if_neg hm]
            by_cases hm1 : m % 2 = 1
            · rw [if_pos hm1, if_pos hm1, ih _ _ _ _ (by omega)]
              by_cases e : m = n
              · rw [if_pos e, if_pos (by omega)]
              · rw [if_neg e, if_neg (by omega)]
            · rw [if_neg hm1, if_neg hm1, if_neg (by intro e; subst e; exact hm1 h1)]
        · rw [if_neg h1, get_node, get_node]
          by_cases hm : m = 0
          · subst hm
            rw [if_pos rfl, if_neg (by omega), if_pos rfl]
          · rw [if_neg hm, if_neg hm]
            by_cases hm1 : m % 2 = 1
            · rw [if_pos hm1, if_pos hm1, if_neg (by intro e; subst e; exact h1 hm1)]
            · rw [if_neg hm1, if_neg hm1, ih _ _ _ _ (by omega)]
              by_cases e : m = n
              · rw [if_pos e, if_pos (by omega)]
              · rw [if_neg e, if_neg (by omega)]

theorem get_put (t : Tr α) (n m : Nat) (x : Option α) : (t.put n x).get m = if m = n then x else t.get m := get_putF _ _ _ _ _ (Nat.lt_succ_self n)
@[simp] theorem get_put_self (t : Tr α) (n : Nat) (x : Option α) : (t.put n x).get n = x := by rw [get_put, if_pos rfl]
theorem get_put_ne (t : Tr α) {n m : Nat} (x : Option α) (h : m ≠ n) : (t.put n x).get m = t.get m := by rw [get_put, if_neg h]

end Tr

/- A block: its cells; 'opn': it was made by an append that had no room: what is behind its cells is not known; 'es': cells an element, for such a one. -/
structure Blk where
  ty : TypeId
  es : Nat
  opn : Bool
  cells : List Value

/- The first number of a new block. -/
def base0 : Nat := 4611686018427387904
/- The mark of a capacity that is not known. -/
def openCap : Nat := 18446744073709551616

structure Heap where
  old : Nat → Option Blk
  tr : Tr Blk
  next : Nat

namespace Heap
def get (H : Heap) (b : Nat) : Option Blk := if b < base0 then H.old b else H.tr.get (b - base0)
def put (H : Heap) (b : Nat) (x : Option Blk) : Heap := if b < base0 then H else { H with tr := H.tr.put (b - base0) x }
def set (H : Heap) (b : Nat) (x : Blk) : Heap := H.put b (some x)
def del (H : Heap) (b : Nat) : Heap := H.put b none
def alloc (H : Heap) (x : Blk) : Heap := { H.put H.next (some x) with next := H.next + 1 }

def loads (H : Heap) (a : Addr) (n : Nat) : Option (List Value) := do
  if a.spot.isSome then none
  let x ← H.get a.block
  if a.off + n ≤ x.cells.length then some ((x.cells.drop a.off).take n) else none

def load1 (H : Heap) (a : Addr) : Option Value := do
  if a.spot.isSome then none
  let x ← H.get a.block
  x.cells[a.off]?

/- The cells from an offset on are replaced. -/
def splice (cs : List Value) (off : Nat) (vs : List Value) : List Value := cs.take off ++ vs ++ cs.drop (off + vs.length)

def oneC : Value → Bool
  | .agg _ | .tuple _ => false
  | _ => true

def stores (H : Heap) (a : Addr) (vs : List Value) : Option Heap := do
  if a.spot.isSome || a.block < base0 || !vs.all oneC then none
  let x ← H.get a.block
  if a.off + vs.length ≤ x.cells.length then some (H.set a.block { x with cells := splice x.cells a.off vs }) else none
end Heap

/- A value without an address. -/
def flatV : Value → Bool
  | .bool _ | .int _ _ | .float _ _ | .string _ | .pointer none | .slice none 0 0 | .map none | .nilFunc | .nilIface => true
  | _ => false
def plainV : Value → Bool
  | .agg cs => cs.all flatV
  | v => flatV v

/- An activation: so many slots, the slots, the deferred calls, and the heap. -/
structure St where
  n : Nat
  f : Tr Value
  d : List Deferred
  H : Heap

namespace St
def slot (s : St) (t : Nat) : Value := (s.f.get t).getD undef
def ev (s : St) : Operand → Option Value
  | .tmp t => some (s.slot t)
  | .const v => if plainV v then some v else none
  | .global _ => none
  | .func f => some (.func (.func f) #[] #[])
def put (s : St) (dst : Option Tmp) (v : Value) : St :=
  match dst with
  | some d => if d < s.n then { s with f := s.f.put d (some v) } else s
  | none => s
end St

inductive R where
  | val (v : Value)
  | call (f : FuncId) (args : Array Value)
  | dfr (d : Deferred)
  | pan (v : Value)

inductive CR where
  | ret (v : Value)
  | pan (v : Value)

inductive Ex where
  | normal
  | exit (id : Nat)
  | ret
  | panic (v : Value)

section ops
variable (P : Program)

def szA (t : TypeId) : Option Nat := (P.info? t).map (·.size)
def aggA (t : TypeId) : Option Bool := (P.underlying t).map fun d => match d with | .struct _ | .array _ _ => true | _ => false

def zeroA (t : TypeId) : Option Value := do
  let z ← (P.info? t).bind (·.zero)
  if plainV z then some z else none

def loadA (H : Heap) (t : TypeId) (v : Value) : Option Value := do
  match v with
  | .pointer (some a) =>
    if ← aggA P t then (H.loads a (← szA P t)).map fun l => .agg l.toArray else H.load1 a
  | _ => none

def storeA (H : Heap) (t : TypeId) (a v : Value) : Option Heap := do
  match a with
  | .pointer (some a) => if v.cells.size = (← szA P t) then H.stores a v.cells.toList else none
  | _ => none

def buildA (t : TypeId) (parts : List (Nat × Value)) : Option Value := do
  let zero := (← zeroA P t).cells
  match ← P.underlying t with
  | .struct fields =>
    let places ← fields.toList.mapM fun f => (szA P f.type).map fun n => (f.offset, n)
    (Instr.fill (places[·]?) zero parts).map .agg
  | .array _ elem =>
    let size ← szA P elem
    (Instr.fill (fun i => some (i * size, size)) zero parts).map .agg
  | _ => none

/- so many elements, each the same cells -/
def manyA (zero : List Value) : Nat → List Value
  | 0 => []
  | n + 1 => zero ++ manyA zero n

def buildSliceA (t : TypeId) (len : Nat) (parts : List (Nat × Value)) : Option ((Nat → Value) × Blk) := do
  match ← P.underlying t with
  | .slice elem =>
    let size ← szA P elem
    if size = 0 || len * size > 2 ^ 24 then none else
    let zero := (← zeroA P elem).cells
    if zero.size ≠ size then none else
    let cells ← Instr.fill (fun i => some (i * size, size)) (manyA zero.toList len).toArray parts
    some (fun b => .slice (some ⟨b, 0, none⟩) len len, ⟨elem, 0, false, cells.toList⟩)
  | _ => none

def fieldAddrA (s : TypeId) (v : Value) (f : Nat) : Option Value := do
  match ← P.underlying s, v with
  | .struct fields, .pointer (some a) =>
    let f ← fields[f]?
    if (← szA P f.type) = 0 || a.spot.isSome then none else some (.pointer (some ⟨a.block, a.off + f.offset, none⟩))
  | _, _ => none

def partA (t : TypeId) (cs : Array Value) (off : Nat) : Option Value := do
  if ← aggA P t then some (.agg (cs.extract off (off + (← szA P t)))) else cs[off]?

def fieldA (t : TypeId) (v : Value) (f : Nat) : Option Value := do
  match ← P.underlying t, v with
  | .struct fields, .agg cs =>
    let f ← fields[f]?
    partA P f.type cs f.offset
  | _, _ => none

def indexAddrA (t : TypeId) (v ix : Value) : Option Value := do
  match ← P.underlying t, v, ix with
  | .array len elem, .pointer (some a), .int _ i =>
    if a.spot.isSome then none else
    if 0 ≤ i ∧ i < (len : Int) then some (.pointer (some ⟨a.block, a.off + i.toNat * (← szA P elem), none⟩)) else none
  | .slice elem, .slice (some a) len cap, .int _ i =>
    if a.spot.isSome || cap = 0 then none else
    if 0 ≤ i ∧ i < (len : Int) then some (.pointer (some ⟨a.block, a.off + i.toNat * (← szA P elem), none⟩)) else none
  | _, _, _ => none

def indexA (t : TypeId) (v ix : Value) : Option Value := do
  match ← P.underlying t, v, ix with
  | .array len elem, .agg cs, .int _ i => if 0 ≤ i ∧ i < (len : Int) then partA P elem cs (i.toNat * (← szA P elem)) else none
  | .string, .string s, .int _ i => if 0 ≤ i then (s[i.toNat]?).map fun b => .int .u8 b.toNat else none
  | _, _, _ => none

def boundA (x : Option Value) (d y : Nat) : Option Nat := match x with
  | none => some d
  | some (.int _ i) => if 0 ≤ i ∧ i ≤ (y : Int) then some i.toNat else none
  | _ => none

/- x[low:high:max]: of a string, a slice, an array at an address -/
def sliceA (H : Heap) (t : TypeId) (v : Value) (low high max : Option Value) : Option Value := do
  match ← P.underlying t, v with
  | .string, .string s =>
    if max.isSome then none else
    let h ← boundA high s.size s.size
    let l ← boundA low 0 h
    some (.string (s.extract l h))
  | .slice elem, .slice a len cap =>
    let size ← szA P elem
    if cap = openCap then
      match a with
      | none => none
      | some a =>
        if a.spot.isSome || size = 0 then none else
        let x ← H.get a.block
        if x.es ≠ size then none else
        let most := (x.cells.length - a.off) / size
        match max with
        | none =>
          let h ← boundA high len most
          let l ← boundA low 0 h
          some (.slice (some ⟨a.block, a.off + l * size, none⟩) (h - l) openCap)
        | some _ =>
          if high.isNone then none else
          let m ← boundA max most most
          let h ← boundA high len m
          let l ← boundA low 0 h
          if m < openCap then some (.slice (some ⟨a.block, a.off + l * size, none⟩) (h - l) (m - l)) else none
    else
      if max.isSome && high.isNone then none else
      let m ← boundA max cap cap
      let h ← boundA high len m
      let l ← boundA low 0 h
      match a with
      | none => some (.slice none (h - l) (m - l))
      | some a => if a.spot.isSome then none else some (.slice (some ⟨a.block, a.off + l * size, none⟩) (h - l) (m - l))
  | .array n elem, .pointer (some a) =>
    if a.spot.isSome || n ≥ openCap then none else
    if max.isSome && high.isNone then none else
    let m ← boundA max n n
    let h ← boundA high n m
    let l ← boundA low 0 h
    some (.slice (some ⟨a.block, a.off + l * (← szA P elem), none⟩) (h - l) (m - l))
  | .pointer arr, .pointer (some a) =>
    match ← P.underlying arr with
    | .array n elem =>
      if a.spot.isSome || n ≥ openCap then none else
      if max.isSome && high.isNone then none else
      let m ← boundA max n n
      let h ← boundA high n m
      let l ← boundA low 0 h
      some (.slice (some ⟨a.block, a.off + l * (← szA P elem), none⟩) (h - l) (m - l))
    | _ => none
  | _, _ => none

def intOpA (op : BinOp) (k : IntKind) (x y : Int) : Option Value :=
  match op with
  | .add => some (.int k (k.wrap (x + y)))
  | .sub => some (.int k (k.wrap (x - y)))
  | .mul => some (.int k (k.wrap (x * y)))
  | .quo => if y = 0 then none else some (.int k (k.wrap (x.tdiv y)))
  | .rem => if y = 0 then none else some (.int k (x.tmod y))
  | .eql => some (.bool (x == y))
  | .neq => some (.bool (x != y))
  | .lss => some (.bool (x < y))
  | .leq => some (.bool (x ≤ y))
  | .gtr => some (.bool (x > y))
  | .geq => some (.bool (x ≥ y))
  | _ => none

/- two values of a plain kind held against each other -/
def leafEqA : Option TypeDesc → Value → Value → Option Bool
  | some (.int _), .int k a, .int k' b => if k = k' then some (a == b) else none
  | some .bool, .bool a, .bool b => some (a == b)
  | some .string, .string a, .string b => some (a == b)
  | _, _, _ => none

/- fields of plain kinds, in order -/
def eqFieldsA : List Field → List Value → List Value → Option Bool
  | [], [], [] => some true
  | f :: fs, x :: xs, y :: ys =>
    match leafEqA (P.underlying f.type) x y with
    | some true => eqFieldsA fs xs ys
    | some false => some false
    | none => none
  | _, _, _ => none

/- is a field one cell, at its place, of a plain kind? -/
def plainField (i : Nat) (f : Field) : Bool :=
  f.offset == i && f.name != "_"

def plainStruct (t : TypeId) : Bool :=
  !P.stoodInHeld t && !P.eqGuardType P.depth t &&
  match P.underlying t with
  | some (.struct fields) => fields.toList.zipIdx.all fun (f, i) => plainField i f
  | _ => false

def equalA (t : TypeId) (x y : Value) : Option Bool := do
  match ← P.underlying t, x, y with
  | .bool, .bool a, .bool b => some (a == b)
  | .string, .string a, .string b => some (a == b)
  | .pointer _, .pointer none, .pointer b => some b.isNone
  | .pointer _, .pointer (some _), .pointer none => some false
  | .interface _, .nilIface, .nilIface => some true
  | .interface _, .nilIface, .iface _ _ => some false
  | .interface _, .iface _ _, .nilIface => some false
  | .slice _, .slice none _ _, .slice b _ _ => some b.isNone
  | .slice _, .slice (some _) _ _, .slice none _ _ => some false
  | .func _ _ _, .nilFunc, .nilFunc => some true
  | .func _ _ _, .nilFunc, .func _ _ _ => some false
  | .func _ _ _, .func _ _ _, .nilFunc => some false
  | .struct fs, .agg xs, .agg ys => if plainStruct P t then eqFieldsA P fs.toList xs.toList ys.toList else none
  | _, _, _ => none

def isConstA : Operand → Bool
  | .const _ => true
  | _ => false

/- of two nil interface values one must be the literal nil -/
def eqGuardA (op : BinOp) (x y : Operand) (a b : Value) : Bool :=
  match op, a, b with
  | .eql, .nilIface, .nilIface | .neq, .nilIface, .nilIface => isConstA x || isConstA y
  | _, _, _ => true

def binA (op : BinOp) (t : TypeId) (a b : Value) : Option Value :=
  match op, a, b with
  | .shl, _, _ | .shr, _, _ => none
  | op, .int k x, .int k' y => if k = k' then intOpA op k x y else none
  | .eql, a, b => (equalA P t a b).map .bool
  | .neq, a, b => (equalA P t a b).map fun r => .bool !r
  | _, _, _ => none

def unA (op : UnOp) (x : Value) : Option Value :=
  match op, x with
  | .not, .bool b => some (.bool !b)
  | .neg, .int k n => some (.int k (k.wrap (0 - n)))
  | _, _ => none

def convertA (src dst : TypeId) (x : Value) : Option Value := do
  match ← P.underlying src, ← P.underlying dst, x with
  | .int _, .int k, .int _ n => some (.int k (k.wrap n))
  | _, _, _ => none

def makeInterfaceA (t : TypeId) (x : Value) : Option Value := do
  match ← P.underlying t with
  | .interface _ => none
  | _ => some (.iface t x)

def typeAssertA (x : Value) (asserted : TypeId) (commaOk : Bool) : Option Value := do
  match ← P.underlying asserted, x with
  | .interface _, _ => none
  | _, .nilIface => if commaOk then (zeroA P asserted).map fun z => .tuple #[z, .bool false] else none
  | _, .iface t v =>
    if t = asserted then some (if commaOk then .tuple #[v, .bool true] else v)
    else if commaOk then (zeroA P asserted).map fun z => .tuple #[z, .bool false] else none
  | _, _ => none

def extractA (x : Value) (i : Nat) : Option Value :=
  match x with
  | .tuple vs => vs[i]?
  | _ => none

def makeSliceA (t : TypeId) (l c : Value) : Option ((Nat → Value) × Blk) := do
  match ← P.underlying t, l, c with
  | .slice elem, .int .i64 l, .int .i64 c =>
    let i ← P.info? elem
    if 0 ≤ l ∧ l ≤ c ∧ c ≤ 2 ^ 47 ∧ c * i.bytes ≤ 2 ^ 47 ∧ i.size ≠ 0 then
      let zero := (← zeroA P elem).cells
      if zero.size ≠ i.size then none else
      some (fun b => .slice (some ⟨b, 0, none⟩) l.toNat c.toNat, ⟨elem, 0, false, manyA zero.toList c.toNat⟩)
    else none
  | _, _, _ => none

def lenA (t : TypeId) (x : Value) : Option Value := do
  match ← P.underlying t, x with
  | .string, .string s => some (goInt s.size)
  | .slice _, .slice _ n _ => some (goInt n)
  | .array n _, _ => some (goInt n)
  | _, _ => none

/- the first cells of what is appended -/
def firstA (H : Heap) (size n : Nat) : Value → Option (List Value)
  | .slice (some a) _ cap => if n = 0 then some [] else if cap = 0 then none else H.loads a (n * size)
  | .slice none _ _ => if n = 0 then some [] else none
  | .string s => if size = 1 then some ((s.extract 0 n).data.toList.map fun b => .int .u8 b.toNat) else none
  | _ => none

def lengthA : Value → Option Nat
  | .slice _ n _ => some n
  | .string s => some s.size
  | _ => none

/- append: at a capacity that is known as Go does; at one that is not: the block's content moves on into a block of a new number, whether in the world it stays or moves; the old number is dead. -/
def appendA (H : Heap) (sType xType : TypeId) (s x : Value) : Option (Value × Heap) := do
  match ← P.underlying sType, ← P.underlying xType, s with
  | _, .int _, _ => none
  | .slice elem, _, .slice base len cap =>
    let i ← P.info? elem
    let size := i.size
    let z ← zeroA P elem
    if size = 0 || z.cells.size ≠ size then none else
    let n ← lengthA x
    let need := len + n
    let news ← firstA H size n x
    if cap ≠ openCap then
      if need ≤ cap then
        match base with
        | none => if n = 0 then some (.slice none need cap, H) else none
        | some a => if n = 0 then some (.slice (some a) need cap, H) else (H.stores ⟨a.block, a.off + len * size, a.spot⟩ news).map fun H => (.slice (some a) need cap, H)
      else
        if 4 * need * i.bytes + 4096 > 2 ^ 47 || need > 2 ^ 47 then none else
        let olds ← firstA H size len s
        some (.slice (some ⟨H.next, 0, none⟩) need openCap, H.alloc ⟨elem, size, true, olds ++ news⟩)
    else
      match base with
      | none => none
      | some a =>
        if a.spot.isSome || a.block < base0 then none else
        let x ← H.get a.block
        if x.es ≠ size || !x.opn then none else
        if n = 0 then some (.slice (some a) need cap, H)
        else if a.off + need * size ≤ x.cells.length then (H.stores ⟨a.block, a.off + len * size, none⟩ news).map fun H => (.slice (some a) need cap, H)
        else if a.off + len * size ≠ x.cells.length || !news.all Heap.oneC then none
        else if 4 * need * i.bytes + 4096 > 2 ^ 47 || need > 2 ^ 47 then none
        else some (.slice (some ⟨H.next, 0, none⟩) need openCap, (H.del a.block).alloc ⟨elem, size, true, x.cells.drop a.off ++ news⟩)
  | _, _, _ => none

def copyA (H : Heap) (dType : TypeId) (d x : Value) : Option (Value × Heap) := do
  match ← P.underlying dType, d with
  | .slice elem, .slice base len cap =>
    let size ← szA P elem
    let n := Nat.min (← lengthA x) len
    if size = 0 then none else
    let news ← firstA H size n x
    match base with
    | none => some (goInt n, H)
    | some a => if n = 0 then some (goInt n, H) else if cap = 0 then none else (H.stores a news).map fun H => (goInt n, H)
  | _, _ => none

def min2A (a b : Value) : Option Value :=
  match a, b with
  | .int k x, .int _ y => some (.int k (if y < x then y else x))
  | _, _ => none
def max2A (a b : Value) : Option Value :=
  match a, b with
  | .int k x, .int _ y => some (.int k (if y > x then y else x))
  | _, _ => none

def builtinA (b : Builtin) (ts : Array TypeId) (args : List Value) (H : Heap) : Option (Value × Heap) := do
  match b, args with
  | .len, [x] => (lenA P (← ts[0]?) x).map (·, H)
  | .append, [s, x] => appendA P H (← ts[0]?) (← ts[1]?) s x
  | .copy, [d, x] => copyA P H (← ts[0]?) d x
  | .min, [x, y] => (min2A x y).map (·, H)
  | .max, [x, y] => (max2A x y).map (·, H)
  | _, _ => none

/- what a call of a function value comes to -/
def targetA (f : Value) (args : List Value) : Option (FuncId × Array Value) :=
  match f with
  | .func (.func f) first captured => some (f, first ++ args.toArray ++ captured)
  | _ => none

/- an operation that makes one block: its value, given the block's number, and the block -/
def allocA (o : Op) (ev : Operand → Option Value) : Option ((Nat → Value) × Blk) := do
  match o with
  | .alloc t => let z ← zeroA P t; some (fun b => .pointer (some ⟨b, 0, none⟩), ⟨t, 0, false, z.cells.toList⟩)
  | .box t x => let v ← ev x; some (fun b => .pointer (some ⟨b, 0, none⟩), ⟨t, 0, false, v.cells.toList⟩)
  | .buildSlice t n parts => buildSliceA P t n (← parts.toList.mapM fun (i, x) => (ev x).map (i, ·))
  | .makeSlice t l c => makeSliceA P t (← ev l) (← ev c)
  | _ => none

def isAlloc : Op → Bool
  | .alloc _ | .box _ _ | .buildSlice _ _ _ | .makeSlice _ _ _ => true
  | _ => false

def opA (o : Oper) (ev : Operand → Option Value) (H : Heap) : Option (R × Heap) :=
  if isAlloc o.op then do let r ← allocA P o.op ev; some (.val (r.1 H.next), H.alloc r.2) else do
  match o.op with
  | .move x | .assign x => some (.val (← ev x), H)
  | .pick c a b =>
    match ← ev c with
    | .bool c => if c then some (.val (← ev a), H) else some (.val (← ev b), H)
    | _ => none
  | .build t parts => some (.val (← buildA P t (← parts.toList.mapM fun (i, x) => (ev x).map (i, ·))), H)
  | .load t a => some (.val (← loadA P H t (← ev a)), H)
  | .store t a x => some (.val undef, ← storeA P H t (← ev a) (← ev x))
  | .nilCheck x =>
    match ← ev x with
    | .pointer (some a) => some (.val (.pointer (some a)), H)
    | .func (.func f) first captured => some (.val (.func (.func f) first captured), H)
    | .iface t v => some (.val (.iface t v), H)
    | _ => none
  | .binOp op t x y _ =>
    let a ← ev x
    let b ← ev y
    if eqGuardA op x y a b then some (.val (← binA P op t a b), H) else none
  | .unOp op _ x => some (.val (← unA op (← ev x)), H)
  | .convert s t x => some (.val (← convertA P s t (← ev x)), H)
  | .makeInterface t x => some (.val (← makeInterfaceA P t (← ev x)), H)
  | .makeFunc fn first captured => some (.val (.func fn (← first.toList.mapM ev).toArray (← captured.toList.mapM ev).toArray), H)
  | .slice t x lo hi mx => some (.val (← sliceA P H t (← ev x) (← lo.mapM ev) (← hi.mapM ev) (← mx.mapM ev)), H)
  | .fieldAddr s x f => some (.val (← fieldAddrA P s (← ev x) f), H)
  | .field t x f => some (.val (← fieldA P t (← ev x) f), H)
  | .indexAddr t x ix => some (.val (← indexAddrA P t (← ev x) (← ev ix)), H)
  | .index t x ix => some (.val (← indexA P t (← ev x) (← ev ix)), H)
  | .typeAssert x _ asserted ok => some (.val (← typeAssertA P (← ev x) asserted ok), H)
  | .extract t i => some (.val (← extractA (← ev t) i), H)
  | .call c =>
    match c.callee with
    | .builtin b => let r ← builtinA P b c.argTypes (← c.args.toList.mapM ev) H; some (.val r.1, r.2)
    | .value f => let r ← targetA (← ev f) (← c.args.toList.mapM ev); some (.call r.1 r.2, H)
    | .invoke _ _ => none
  | .defer c =>
    match c.callee with
    | .value f =>
      match ← ev f with
      | .func (.func f) first captured => some (.dfr { target := .fn (.func f) captured, args := first ++ (← c.args.toList.mapM ev).toArray }, H)
      | _ => none
    | _ => none
  | .panic x =>
    match ← ev x with
    | .iface t v => some (.pan (.iface t v), H)
    | _ => none
  | _ => none

end ops

end Go.Am
