/- What each operation asks, in the calculus of weakest conditions. Conditions: those of each theorem. -/
import Derived.Test.YthanhcpnhionaaaAmWp
set_option linter.all false
set_option linter.unusedSimpArgs false
set_option linter.unusedVariables false
namespace Go.Am

/- x[low:high:max] of a slice whose elements are so many cells -/
def sliceS (H : Heap) (size : Nat) (a : Option Addr) (len cap : Nat) (low high max : Option Value) : Option Value := do
    if cap = openCap then
      match a with
      | none => none
      | some a =>
        if a.spot.isSome || size = 0 then none else
        let x ← H.get a.block
        if x.es ≠ size then none else
        let most := (x.cells.length - a.off) / size
        match max with
        | none =>
          let h ← boundA high len most
          let l ← boundA low 0 h
          some (.slice (some ⟨a.block, a.off + l * size, none⟩) (h - l) openCap)
        | some _ =>
          if high.isNone then none else
          let m ← boundA max most most
          let h ← boundA high len m
          let l ← boundA low 0 h
          if m < openCap then some (.slice (some ⟨a.block, a.off + l * size, none⟩) (h - l) (m - l)) else none
    else
      if max.isSome && high.isNone then none else
      let m ← boundA max cap cap
      let h ← boundA high len m
      let l ← boundA low 0 h
      match a with
      | none => some (.slice none (h - l) (m - l))
      | some a => if a.spot.isSome then none else some (.slice (some ⟨a.block, a.off + l * size, none⟩) (h - l) (m - l))

/- the same of an array at an address -/
def sliceR (n size : Nat) (b o : Nat) (low high max : Option Value) : Option Value := do
    if max.isSome && high.isNone then none else
    let m ← boundA max n n
    let h ← boundA high n m
    let l ← boundA low 0 h
    some (.slice (some ⟨b, o + l * size, none⟩) (h - l) (m - l))

/- append to a slice whose elements are so many cells, so many bytes -/
def appS (H : Heap) (elem size bytes : Nat) (base : Option Addr) (len cap : Nat) (x : Value) : Option (Value × Heap) := do
    let n ← lengthA x
    let need := len + n
    let news ← firstA H size n x
    if cap ≠ openCap then
      if need ≤ cap then
        match base with
        | none => if n = 0 then some (.slice none need cap, H) else none
        | some a => if n = 0 then some (.slice (some a) need cap, H) else (H.stores ⟨a.block, a.off + len * size, a.spot⟩ news).map fun H => (.slice (some a) need cap, H)
      else
        if 4 * need * bytes + 4096 > 2 ^ 47 || need > 2 ^ 47 then none else
        let olds ← firstA H size len (.slice base len cap)
        some (.slice (some ⟨H.next, 0, none⟩) need openCap, H.alloc ⟨elem, size, true, olds ++ news⟩)
    else
      match base with
      | none => none
      | some a =>
        if a.spot.isSome || a.block < base0 then none else
        let x ← H.get a.block
        if x.es ≠ size || !x.opn then none else
        if n = 0 then some (.slice (some a) need cap, H)
        else if a.off + need * size ≤ x.cells.length then (H.stores ⟨a.block, a.off + len * size, none⟩ news).map fun H => (.slice (some a) need cap, H)
        else if a.off + len * size ≠ x.cells.length || !news.all Heap.oneC then none
        else if 4 * need * bytes + 4096 > 2 ^ 47 || need > 2 ^ 47 then none
        else some (.slice (some ⟨H.next, 0, none⟩) need openCap, (H.del a.block).alloc ⟨elem, size, true, x.cells.drop a.off ++ news⟩)

def buildS (places : List (Nat × Nat)) (zero : Array Value) (parts : List (Nat × Value)) : Option Value := (Instr.fill (places[·]?) zero parts).map .agg
def buildR (size : Nat) (zero : Array Value) (parts : List (Nat × Value)) : Option Value := (Instr.fill (fun i => some (i * size, size)) zero parts).map .agg
def bslS (elem size len : Nat) (zero : List Value) (parts : List (Nat × Value)) : Option ((Nat → Value) × Blk) := do
    let cells ← Instr.fill (fun i => some (i * size, size)) (manyA zero len).toArray parts
    some (fun b => .slice (some ⟨b, 0, none⟩) len len, ⟨elem, 0, false, cells.toList⟩)

/- two values of a plain kind -/
def leafK : Option IntKind → Value → Value → Option Bool
  | some _, .int k a, .int k' b => if k = k' then some (a == b) else none
  | none, .bool a, .bool b => some (a == b)
  | _, _, _ => none

section
variable {P : Program} {d : Option Tmp} {s : St} {K : Ex → St → Prop}

theorem bindK {α : Type} {r : Option α} {f : α → Option (Ex × St)} : (∃ e s', r.bind f = some (e, s') ∧ K e s') ↔ ∃ v, r = some v ∧ ∃ e s', f v = some (e, s') ∧ K e s' := by
  cases r with
  | none => simp
  | some v => simp
theorem doneK {e0 : Ex} {s0 : St} : (∃ e s', some (e0, s0) = some (e, s') ∧ K e s') ↔ K e0 s0 := by
  constructor
  · rintro ⟨e, s', h, k⟩; cases h; exact k
  · intro k; exact ⟨_, _, rfl, k⟩

theorem WO_run {op : Op} : WO P op d s K ↔ ∃ e s', runOps P (callW P) #[] [{ dst := d, op := op, type := 0, pos := "", after := #[], guard := none }] s = some (e, s') ∧ K e s' := by
  unfold WO
  rw [runOps_of rfl]
  cases doOp P (callW P) { dst := d, op := op, type := 0, pos := "", after := #[], guard := none } s with
  | none => simp
  | some r =>
    obtain ⟨e, s'⟩ := r
    cases e <;> simp [runOps_nil]

theorem WO'_move {x : Operand} : WO P (.move x) d s K ↔ ∃ v, s.ev x = some v ∧ K .normal (s.put d v) := by
  simp only [WO_run, runOps_move, runOps_nil, bindK, doneK]
theorem WO'_assign {x : Operand} : WO P (.assign x) d s K ↔ ∃ v, s.ev x = some v ∧ K .normal (s.put d v) := by
  simp only [WO_run, runOps_assign, runOps_nil, bindK, doneK]
theorem WO'_pick {c x y : Operand} : WO P (.pick c x y) d s K ↔ ∃ b, s.ev c = some b ∧ ∃ v, pickA s.ev x y b = some v ∧ K .normal (s.put d v) := by
  simp only [WO_run, runOps_pick, runOps_nil, bindK, doneK]
theorem WO'_nilCheck {x : Operand} : WO P (.nilCheck x) d s K ↔ ∃ b, s.ev x = some b ∧ ∃ v, nilChkA b = some v ∧ K .normal (s.put d v) := by
  simp only [WO_run, runOps_nilCheck, runOps_nil, bindK, doneK]
theorem WO'_build {t : TypeId} {parts : Array (Nat × Operand)} : WO P (.build t parts) d s K ↔ ∃ l, (parts.toList.mapM fun (p : Nat × Operand) => (s.ev p.2).map (p.1, ·)) = some l ∧ ∃ v, buildA P t l = some v ∧ K .normal (s.put d v) := by
  simp only [WO_run, runOps_build, runOps_nil, bindK, doneK]
theorem WO'_load {t : TypeId} {x : Operand} : WO P (.load t x) d s K ↔ ∃ b, s.ev x = some b ∧ ∃ v, loadA P s.H t b = some v ∧ K .normal (s.put d v) := by
  simp only [WO_run, runOps_load, runOps_nil, bindK, doneK]
theorem WO'_bin {op : BinOp} {t u : TypeId} {x y : Operand} : WO P (.binOp op t x y u) d s K ↔ ∃ a, s.ev x = some a ∧ ∃ b, s.ev y = some b ∧ eqGuardA op x y a b = true ∧ ∃ v, binA P op t a b = some v ∧ K .normal (s.put d v) := by
  simp only [WO_run, runOps_bin, runOps_nil, bindK, doneK]
  constructor
  · rintro ⟨a, ha, b, hb, e, s', h, k⟩
    split at h
    · rename_i hg
      exact ⟨a, ha, b, hb, hg, (bindK.1 ⟨e, s', h, k⟩).imp fun v hv => ⟨hv.1, doneK.1 hv.2⟩⟩
    · cases h
  · rintro ⟨a, ha, b, hb, hg, v, hv, k⟩
    exact ⟨a, ha, b, hb, .normal, _, by rw [if_pos hg, hv]; rfl, k⟩
theorem WO'_un {op : UnOp} {t : TypeId} {x : Operand} : WO P (.unOp op t x) d s K ↔ ∃ b, s.ev x = some b ∧ ∃ v, unA op b = some v ∧ K .normal (s.put d v) := by
  simp only [WO_run, runOps_un, runOps_nil, bindK, doneK]
theorem WO'_convert {a b : TypeId} {x : Operand} : WO P (.convert a b x) d s K ↔ ∃ u, s.ev x = some u ∧ ∃ v, convertA P a b u = some v ∧ K .normal (s.put d v) := by
  simp only [WO_run, runOps_convert, runOps_nil, bindK, doneK]
theorem WO'_iface {t : TypeId} {x : Operand} : WO P (.makeInterface t x) d s K ↔ ∃ u, s.ev x = some u ∧ ∃ v, makeInterfaceA P t u = some v ∧ K .normal (s.put d v) := by
  simp only [WO_run, runOps_iface, runOps_nil, bindK, doneK]
theorem WO'_fieldAddr {t : TypeId} {x : Operand} {i : Nat} : WO P (.fieldAddr t x i) d s K ↔ ∃ u, s.ev x = some u ∧ ∃ v, fieldAddrA P t u i = some v ∧ K .normal (s.put d v) := by
  simp only [WO_run, runOps_fieldAddr, runOps_nil, bindK, doneK]
theorem WO'_field {t : TypeId} {x : Operand} {i : Nat} : WO P (.field t x i) d s K ↔ ∃ u, s.ev x = some u ∧ ∃ v, fieldA P t u i = some v ∧ K .normal (s.put d v) := by
  simp only [WO_run, runOps_field, runOps_nil, bindK, doneK]
theorem WO'_extract {x : Operand} {i : Nat} : WO P (.extract x i) d s K ↔ ∃ u, s.ev x = some u ∧ ∃ v, extractA u i = some v ∧ K .normal (s.put d v) := by
  simp only [WO_run, runOps_extract, runOps_nil, bindK, doneK]
theorem WO'_typeAssert {x : Operand} {a b : TypeId} {k : Bool} : WO P (.typeAssert x a b k) d s K ↔ ∃ u, s.ev x = some u ∧ ∃ v, typeAssertA P u b k = some v ∧ K .normal (s.put d v) := by
  simp only [WO_run, runOps_typeAssert, runOps_nil, bindK, doneK]
theorem WO'_indexAddr {t : TypeId} {x y : Operand} : WO P (.indexAddr t x y) d s K ↔ ∃ u, s.ev x = some u ∧ ∃ i, s.ev y = some i ∧ ∃ v, indexAddrA P t u i = some v ∧ K .normal (s.put d v) := by
  simp only [WO_run, runOps_indexAddr, runOps_nil, bindK, doneK]
theorem WO'_index {t : TypeId} {x y : Operand} : WO P (.index t x y) d s K ↔ ∃ u, s.ev x = some u ∧ ∃ i, s.ev y = some i ∧ ∃ v, indexA P t u i = some v ∧ K .normal (s.put d v) := by
  simp only [WO_run, runOps_index, runOps_nil, bindK, doneK]
theorem WO'_makeFunc {g : Fn} {a b : Array Operand} : WO P (.makeFunc g a b) d s K ↔ ∃ x, a.toList.mapM s.ev = some x ∧ ∃ y, b.toList.mapM s.ev = some y ∧ K .normal (s.put d (.func g x.toArray y.toArray)) := by
  simp only [WO_run, runOps_makeFunc, runOps_nil, bindK, doneK]
theorem WO'_slice {t : TypeId} {x : Operand} {lo hi mx : Option Operand} : WO P (.slice t x lo hi mx) d s K ↔ ∃ u, s.ev x = some u ∧ ∃ l, lo.mapM s.ev = some l ∧ ∃ h, hi.mapM s.ev = some h ∧ ∃ m, mx.mapM s.ev = some m ∧ ∃ v, sliceA P s.H t u l h m = some v ∧ K .normal (s.put d v) := by
  simp only [WO_run, runOps_slice, runOps_nil, bindK, doneK]
theorem WO'_store {t : TypeId} {x y : Operand} : WO P (.store t x y) d s K ↔ ∃ a, s.ev x = some a ∧ ∃ v, s.ev y = some v ∧ ∃ H, storeA P s.H t a v = some H ∧ K .normal ((setH s H).put d undef) := by
  simp only [WO_run, runOps_store, runOps_nil, bindK, doneK]
theorem WO'_builtin {b : Builtin} {args : Array Operand} {ts : Array TypeId} : WO P (.call { callee := .builtin b, args := args, argTypes := ts }) d s K ↔ ∃ l, args.toList.mapM s.ev = some l ∧ ∃ r, builtinA P b ts l s.H = some r ∧ K .normal ((setH s r.2).put d r.1) := by
  simp only [WO_run, runOps_builtin, runOps_nil, bindK, doneK]
theorem WO'_alloc {t : TypeId} : WO P (.alloc t) d s K ↔ ∃ z, zeroA P t = some z ∧ K .normal ((setH s (s.H.alloc ⟨t, 0, false, z.cells.toList⟩)).put d (.pointer (some ⟨s.H.next, 0, none⟩))) := by
  simp only [WO_run, runOps_alloc, runOps_nil, bindK, doneK]
theorem WO'_box {t : TypeId} {x : Operand} : WO P (.box t x) d s K ↔ ∃ z, s.ev x = some z ∧ K .normal ((setH s (s.H.alloc ⟨t, 0, false, z.cells.toList⟩)).put d (.pointer (some ⟨s.H.next, 0, none⟩))) := by
  simp only [WO_run, runOps_box, runOps_nil, bindK, doneK]
theorem WO'_buildSlice {t : TypeId} {n : Nat} {parts : Array (Nat × Operand)} : WO P (.buildSlice t n parts) d s K ↔ ∃ l, (parts.toList.mapM fun (p : Nat × Operand) => (s.ev p.2).map (p.1, ·)) = some l ∧ ∃ r, buildSliceA P t n l = some r ∧ K .normal ((setH s (s.H.alloc r.2)).put d (r.1 s.H.next)) := by
  simp only [WO_run, runOps_buildSlice, runOps_nil, bindK, doneK]
theorem WO'_makeSlice {t : TypeId} {l c : Operand} : WO P (.makeSlice t l c) d s K ↔ ∃ x, s.ev l = some x ∧ ∃ y, s.ev c = some y ∧ ∃ r, makeSliceA P t x y = some r ∧ K .normal ((setH s (s.H.alloc r.2)).put d (r.1 s.H.next)) := by
  simp only [WO_run, runOps_makeSlice, runOps_nil, bindK, doneK]

/- what a call's end is for the rest -/
def backW (d : Option Tmp) (s : St) (K : Ex → St → Prop) : CR → Heap → Prop
  | .ret v, H => K .normal ((setH s H).put d v)
  | .pan v, H => K (.panic v) (setH s H)
@[simp] theorem backW_ret (d : Option Tmp) (s : St) (K : Ex → St → Prop) (v : Value) (H : Heap) : backW d s K (.ret v) H = K .normal ((setH s H).put d v) := rfl
@[simp] theorem backW_pan (d : Option Tmp) (s : St) (K : Ex → St → Prop) (v : Value) (H : Heap) : backW d s K (.pan v) H = K (.panic v) (setH s H) := rfl

theorem WO'_call {x : Operand} {args : Array Operand} {ts : Array TypeId} : WO P (.call { callee := .value x, args := args, argTypes := ts }) d s K ↔ ∃ f, s.ev x = some f ∧ ∃ l, args.toList.mapM s.ev = some l ∧ ∃ t, targetA f l = some t ∧ CW P t.1 t.2 s.H (backW d s K) := by
  simp only [WO_run, runOps_call, runOps_nil, bindK]
  constructor
  · rintro ⟨f, hf, l, hl, t, ht, r, hr, e, s', h, k⟩
    refine ⟨f, hf, l, hl, t, ht, r.1, r.2, hr, ?_⟩
    obtain ⟨r, H⟩ := r
    cases r with
    | ret v => cases h; exact k
    | pan v => cases h; exact k
  · rintro ⟨f, hf, l, hl, t, ht, r, H, hr, k⟩
    refine ⟨f, hf, l, hl, t, ht, (r, H), hr, ?_⟩
    cases r with
    | ret v => exact ⟨_, _, rfl, k⟩
    | pan v => exact ⟨_, _, rfl, k⟩

theorem WO'_defer {x : Operand} {args : Array Operand} {ts : Array TypeId} : WO P (.defer { callee := .value x, args := args, argTypes := ts }) d s K ↔ ∃ f, s.ev x = some f ∧ ∃ l, args.toList.mapM s.ev = some l ∧ ∃ t, deferA l f = some t ∧ K .normal ((addD s t).put d undef) := by
  simp only [WO_run, runOps_defer, runOps_nil, bindK, doneK]
theorem WO'_panic {x : Operand} : WO P (.panic x) d s K ↔ ∃ u, s.ev x = some u ∧ ∃ v, panicA u = some v ∧ K (.panic v) s := by
  simp only [WO_run, runOps_panic, bindK, doneK]

end
end Go.Am
