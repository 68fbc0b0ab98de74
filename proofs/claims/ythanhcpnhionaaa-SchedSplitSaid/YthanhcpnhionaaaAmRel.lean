/- How the abstract machine's values and heaps stand to the world's: 'VR', 'HR'; loads, stores, new blocks. Conditions: those of each theorem. -/
import Derived.Test.YthanhcpnhionaaaAmRun
import Derived.WalkKit
set_option linter.all false
set_option linter.unusedSimpArgs false
set_option linter.unusedVariables false
namespace Go.Am
open Go.RowKit

/- Where an abstract block lies: the world's block, from which cell on, how many cells; the world's block has 'm'. -/
structure Tgt where
  b : Nat
  p : Nat
  n : Nat
  m : Nat
  es : Nat
  opn : Bool

inductive Stat where
  | un
  | dead
  | live (T : Tgt)

abbrev Ren := Nat → Stat

def Le (β β' : Ren) : Prop := ∀ i, β i = .un ∨ β' i = .dead ∨ β' i = β i

theorem Le.refl (β : Ren) : Le β β := fun _ => .inr (.inr rfl)

theorem Le.ne_un {β β' : Ren} (h : Le β β') {i : Nat} (hi : β i ≠ .un) : β' i ≠ .un := by
  rcases h i with h | h | h
  · exact absurd h hi
  · rw [h]; intro e; cases e
  · rw [h]; exact hi

theorem Le.trans {a b c : Ren} (h : Le a b) (k : Le b c) : Le a c := by
  intro i
  rcases h i with h1 | h1 | h1
  · exact .inl h1
  · rcases k i with k1 | k1 | k1
    · rw [h1] at k1; cases k1
    · exact .inr (.inl k1)
    · exact .inr (.inl (k1.trans h1))
  · rcases k i with k1 | k1 | k1
    · exact .inl (h1 ▸ k1)
    · exact .inr (.inl k1)
    · exact .inr (.inr (k1.trans h1))

theorem Le.live {β β' : Ren} (h : Le β β') {i : Nat} {T : Tgt} (hi : β i ≠ .un) (hT : β' i = .live T) : β i = .live T := by
  rcases h i with h | h | h
  · exact absurd h hi
  · rw [h] at hT; cases hT
  · rw [← h]; exact hT

def upd (β : Ren) (i : Nat) (s : Stat) : Ren := fun j => if j = i then s else β j

@[simp] theorem upd_self (β : Ren) (i : Nat) (s : Stat) : upd β i s i = s := by simp [upd]
theorem upd_ne (β : Ren) {i j : Nat} (s : Stat) (h : j ≠ i) : upd β i s j = β j := by simp [upd, h]

theorem Le.upd {β : Ren} {i : Nat} {s : Stat} (h : β i = .un) : Le β (upd β i s) := by
  intro j
  by_cases e : j = i
  · subst e; exact .inl h
  · exact .inr (.inr (upd_ne _ _ e))

theorem Le.kill (β : Ren) (i : Nat) : Le β (Am.upd β i .dead) := by
  intro j
  by_cases e : j = i
  · subst e; exact .inr (.inl (upd_self _ _ _))
  · exact .inr (.inr (upd_ne _ _ e))

/- addresses -/
def AR (β : Ren) (a a' : Addr) : Prop := a.spot = none ∧ β a.block ≠ .un ∧ ∀ T, β a.block = .live T → a' = ⟨T.b, T.p + a.off, none⟩

theorem AR.mono {β β' : Ren} {a a' : Addr} (h : AR β a a') (k : Le β β') : AR β' a a' :=
  ⟨h.1, k.ne_un h.2.1, fun T hT => h.2.2 T (k.live h.2.1 hT)⟩

/- values -/
inductive VR (β : Ren) : Value → Value → Prop
  | bool (b : Bool) : VR β (.bool b) (.bool b)
  | int (k : IntKind) (n : Int) : VR β (.int k n) (.int k n)
  | float (k : FloatKind) (n : Nat) : VR β (.float k n) (.float k n)
  | string (s : ByteArray) : VR β (.string s) (.string s)
  | nilp : VR β (.pointer none) (.pointer none)
  | ptr {a a' : Addr} (h : AR β a a') : VR β (.pointer (some a)) (.pointer (some a'))
  | nils (l c : Nat) (hc : c < openCap) : VR β (.slice none l c) (.slice none l c)
  | sl {a a' : Addr} (l c : Nat) (hc : c < openCap) (hl : l ≤ c) (h : c = 0 ∨ AR β a a') : VR β (.slice (some a) l c) (.slice (some a') l c)
  | op {a a' : Addr} (l c : Nat) (hl : l ≤ c) (hs : a.spot = none) (hu : β a.block ≠ .un)
      (h : ∀ T, β a.block = .live T → T.opn = true ∧ T.p + a.off + c * T.es = T.m ∧ (c = 0 ∨ a' = ⟨T.b, T.p + a.off, none⟩)) :
      VR β (.slice (some a) l openCap) (.slice (some a') l c)
  | nilm : VR β (.map none) (.map none)
  | nilf : VR β .nilFunc .nilFunc
  | nili : VR β .nilIface .nilIface
  | iface (t : TypeId) {v v' : Value} (h : VR β v v') : VR β (.iface t v) (.iface t v')
  | func (f : Fn) {x x' y y' : Array Value} (hx : x.size = x'.size) (hy : y.size = y'.size)
      (kx : ∀ (i : Nat) (u u' : Value), x[i]? = some u → x'[i]? = some u' → VR β u u')
      (ky : ∀ (i : Nat) (u u' : Value), y[i]? = some u → y'[i]? = some u' → VR β u u') : VR β (.func f x y) (.func f x' y')
  | agg {x x' : Array Value} (hx : x.size = x'.size)
      (kx : ∀ (i : Nat) (u u' : Value), x[i]? = some u → x'[i]? = some u' → VR β u u') : VR β (.agg x) (.agg x')
  | tuple {x x' : Array Value} (hx : x.size = x'.size)
      (kx : ∀ (i : Nat) (u u' : Value), x[i]? = some u → x'[i]? = some u' → VR β u u') : VR β (.tuple x) (.tuple x')

theorem VR.mono {β β' : Ren} {v v' : Value} (h : VR β v v') (k : Le β β') : VR β' v v' := by
  induction h with
  | bool b => exact .bool b
  | int k n => exact .int k n
  | float k n => exact .float k n
  | string s => exact .string s
  | nilp => exact .nilp
  | ptr h => exact .ptr (h.mono k)
  | nils l c hc => exact .nils l c hc
  | sl l c hc hl h => exact .sl l c hc hl (h.imp id (·.mono k))
  | op l c hl hs hu h => exact .op l c hl hs (k.ne_un hu) fun T hT => h T (k.live hu hT)
  | nilm => exact .nilm
  | nilf => exact .nilf
  | nili => exact .nili
  | iface t _ ih => exact .iface t ih
  | func f hx hy _ _ ihx ihy => exact .func f hx hy ihx ihy
  | agg hx _ ih => exact .agg hx ih
  | tuple hx _ ih => exact .tuple hx ih

/- lists of values -/
def LR (β : Ren) (xs ys : List Value) : Prop := xs.length = ys.length ∧ ∀ (i : Nat) (u u' : Value), xs[i]? = some u → ys[i]? = some u' → VR β u u'

theorem LR.mono {β β' : Ren} {xs ys : List Value} (h : LR β xs ys) (k : Le β β') : LR β' xs ys := ⟨h.1, fun i u u' hu hu' => (h.2 i u u' hu hu').mono k⟩
theorem LR.nil (β : Ren) : LR β [] [] := ⟨rfl, fun i u u' h => by simp at h⟩
theorem LR.cons {β : Ren} {x y : Value} {xs ys : List Value} (h : VR β x y) (hs : LR β xs ys) : LR β (x :: xs) (y :: ys) := by
  refine ⟨by simp [hs.1], fun i u u' hu hu' => ?_⟩
  cases i with
  | zero => simp at hu hu'; subst hu; subst hu'; exact h
  | succ i => exact hs.2 i u u' (by simpa using hu) (by simpa using hu')
theorem LR.head {β : Ren} {x y : Value} {xs ys : List Value} (h : LR β (x :: xs) (y :: ys)) : VR β x y ∧ LR β xs ys :=
  ⟨h.2 0 x y (by simp) (by simp), by have := h.1; simpa using this, fun i u u' hu hu' => h.2 (i + 1) u u' (by simpa using hu) (by simpa using hu')⟩
theorem LR.get {β : Ren} {xs ys : List Value} (h : LR β xs ys) {i : Nat} {u : Value} (hu : xs[i]? = some u) : ∃ u', ys[i]? = some u' ∧ VR β u u' := by
  have hi : i < xs.length := by
    rcases Nat.lt_or_ge i xs.length with k | k
    · exact k
    · simp [List.getElem?_eq_none k] at hu
  have hi' : i < ys.length := h.1 ▸ hi
  have hy : ys[i]? = some (ys[i]'hi') := List.getElem?_eq_getElem hi'
  exact ⟨_, hy, h.2 i u _ hu hy⟩
theorem LR.append {β : Ren} {a b c d : List Value} (h : LR β a b) (k : LR β c d) : LR β (a ++ c) (b ++ d) := by
  refine ⟨by simp [h.1, k.1], fun i u u' hu hu' => ?_⟩
  by_cases hi : i < a.length
  · rw [List.getElem?_append_left hi] at hu
    rw [List.getElem?_append_left (h.1 ▸ hi)] at hu'
    exact h.2 i u u' hu hu'
  · rw [List.getElem?_append_right (by omega)] at hu
    rw [List.getElem?_append_right (by have := h.1; omega)] at hu'
    exact k.2 (i - a.length) u u' hu (by rw [h.1]; exact hu')
theorem LR.drop {β : Ren} {a b : List Value} (h : LR β a b) (n : Nat) : LR β (a.drop n) (b.drop n) :=
  ⟨by simp [h.1], fun i u u' hu hu' => h.2 (n + i) u u' (by simpa [List.getElem?_drop] using hu) (by simpa [List.getElem?_drop] using hu')⟩
theorem LR.take {β : Ren} {a b : List Value} (h : LR β a b) (n : Nat) : LR β (a.take n) (b.take n) := by
  refine ⟨by simp [h.1], fun i u u' hu hu' => ?_⟩
  rw [List.getElem?_take] at hu hu'
  split at hu
  · rename_i hi; rw [if_pos hi] at hu'; exact h.2 i u u' hu hu'
  · cases hu

theorem VR.aggL {β : Ren} {x x' : Array Value} (h : LR β x.toList x'.toList) : VR β (.agg x) (.agg x') :=
  .agg (by simpa using h.1) fun i u u' hu hu' => h.2 i u u' (by simpa using hu) (by simpa using hu')
theorem VR.tupleL {β : Ren} {x x' : Array Value} (h : LR β x.toList x'.toList) : VR β (.tuple x) (.tuple x') :=
  .tuple (by simpa using h.1) fun i u u' hu hu' => h.2 i u u' (by simpa using hu) (by simpa using hu')
theorem LR.ofA {β : Ren} {x x' : Array Value} (hx : x.size = x'.size) (kx : ∀ (i : Nat) (u u' : Value), x[i]? = some u → x'[i]? = some u' → VR β u u') : LR β x.toList x'.toList :=
  ⟨by simpa using hx, fun i u u' hu hu' => kx i u u' (by simpa using hu) (by simpa using hu')⟩

theorem VR.cells {β : Ren} {v v' : Value} (h : VR β v v') : LR β v.cells.toList v'.cells.toList := by
  cases h with
  | agg hx kx => exact LR.ofA hx kx
  | bool b => exact .cons (.bool b) (.nil β)
  | int k n => exact .cons (.int k n) (.nil β)
  | float k n => exact .cons (.float k n) (.nil β)
  | string s => exact .cons (.string s) (.nil β)
  | nilp => exact .cons .nilp (.nil β)
  | ptr h => exact .cons (.ptr h) (.nil β)
  | nils l c hc => exact .cons (.nils l c hc) (.nil β)
  | sl l c hc hl h => exact .cons (.sl l c hc hl h) (.nil β)
  | op l c hl hs hu h => exact .cons (.op l c hl hs hu h) (.nil β)
  | nilm => exact .cons .nilm (.nil β)
  | nilf => exact .cons .nilf (.nil β)
  | nili => exact .cons .nili (.nil β)
  | iface t h => exact .cons (.iface t h) (.nil β)
  | func f hx hy kx ky => exact .cons (.func f hx hy kx ky) (.nil β)
  | tuple hx kx => exact .cons (.tuple hx kx) (.nil β)

theorem VR.oneC {β : Ren} {v v' : Value} (h : VR β v v') (hv : Heap.oneC v = true) : v'.oneCell' = true := by
  cases h <;> first | rfl | (simp [Heap.oneC] at hv)

theorem VR.flat {β : Ren} {v : Value} (h : flatV v = true) : VR β v v := by
  unfold flatV at h
  split at h <;> first | (constructor; done) | exact .nils 0 0 (by decide) | (cases h)

theorem VR.plain {β : Ren} {v : Value} (h : plainV v = true) : VR β v v := by
  cases v with
  | agg cs =>
    have h' : cs.all flatV = true := h
    refine .agg rfl fun i u u' hu hu' => ?_
    rw [hu] at hu'
    cases hu'
    rw [Array.all_eq_true'] at h'
    exact .flat (h' u (Array.mem_of_getElem? hu))
  | _ => exact .flat h

/- one block -/
structure BR (β : Ren) (x : Blk) (T : Tgt) (w : World) (rw : Prop) : Prop where
  n : T.n = x.cells.length
  es : T.es = x.es
  opn : T.opn = x.opn
  le : T.p + T.n ≤ T.m
  obj : ∃ C ty fz, w.heap[T.b]? = some (.cells C ty fz) ∧ C.size = T.m ∧ (rw → fz = (0, 0)) ∧ LR β x.cells ((C.toList.drop T.p).take T.n)

/- Numbers that are set aside: with a block that must stay; without: nothing bears the number, nothing may take it. -/
abbrev XF := Nat → Option (Option Blk)

def getX (H : Heap) (X : XF) (i : Nat) : Option Blk := (H.get i).or (X i).join

structure HR (β : Ren) (H : Heap) (X : XF) (base : Nat) (w : World) : Prop where
  next : base0 ≤ H.next
  fresh : ∀ i, H.next ≤ i → β i = .un
  disj : ∀ i x, X i = some x → H.get i = none
  xlt : ∀ i x, X i = some x → i < H.next
  res : ∀ i, X i = some none → β i = .un
  blk : ∀ i x, getX H X i = some x → ∃ T, β i = .live T ∧ BR β x T w (base0 ≤ i) ∧ (if base0 ≤ i then base ≤ T.b else T.b < base)
  live : ∀ i T, β i = .live T → ∃ x, getX H X i = some x
  inj : ∀ i j T U, base0 ≤ i → base0 ≤ j → β i = .live T → β j = .live U → T.b = U.b → i = j
  sz : base ≤ w.heap.size

theorem BR.mono {β β' : Ren} {x : Blk} {T : Tgt} {w : World} {rw : Prop} (h : BR β x T w rw) (k : Le β β') : BR β' x T w rw :=
  ⟨h.n, h.es, h.opn, h.le, by obtain ⟨C, ty, fz, h1, h2, h3, h4⟩ := h.obj; exact ⟨C, ty, fz, h1, h2, h3, h4.mono k⟩⟩

theorem BR.world {β : Ren} {x : Blk} {T : Tgt} {w w' : World} {rw : Prop} (h : BR β x T w rw) (e : w'.heap[T.b]? = w.heap[T.b]?) : BR β x T w' rw :=
  ⟨h.n, h.es, h.opn, h.le, by rw [e]; exact h.obj⟩

theorem BR.lt {β : Ren} {x : Blk} {T : Tgt} {w : World} {rw : Prop} (h : BR β x T w rw) : T.b < w.heap.size := by
  obtain ⟨C, ty, fz, h1, _⟩ := h.obj
  rcases Nat.lt_or_ge T.b w.heap.size with k | k
  · exact k
  · simp [Array.getElem?_eq_none k] at h1

/- the world's cell behind an abstract one -/
theorem BR.cell {β : Ren} {x : Blk} {T : Tgt} {w : World} {rw : Prop} (h : BR β x T w rw) {i : Nat} {v : Value} (hv : x.cells[i]? = some v) :
    ∃ v', w.cell? ⟨T.b, T.p + i, none⟩ = some v' ∧ VR β v v' := by
  obtain ⟨C, ty, fz, h1, h2, _, h4⟩ := h.obj
  obtain ⟨v', e, r⟩ := h4.get hv
  refine ⟨v', ?_, r⟩
  rw [List.getElem?_take] at e
  split at e
  · rw [List.getElem?_drop] at e
    simp [World.cell?, h1]
    simpa using e
  · cases e

theorem HR.mem {β : Ren} {H : Heap} {X : XF} {base : Nat} {w : World} (h : HR β H X base w) {i : Nat} {x : Blk} (hx : H.get i = some x) :
    ∃ T, β i = .live T ∧ BR β x T w (base0 ≤ i) ∧ (if base0 ≤ i then base ≤ T.b else T.b < base) := h.blk i x (by simp [getX, hx])

/- the world turns where nothing lies -/
theorem HR.world {β : Ren} {H : Heap} {X : XF} {base : Nat} {w w' : World} (h : HR β H X base w) (e : ∀ i T, β i = .live T → w'.heap[T.b]? = w.heap[T.b]?)
    (hs : w.heap.size ≤ w'.heap.size) : HR β H X base w' :=
  ⟨h.next, h.fresh, h.disj, h.xlt, h.res, fun i x hx => by obtain ⟨T, h1, h2, h3⟩ := h.blk i x hx; exact ⟨T, h1, h2.world (e i T h1), h3⟩, h.live, h.inj, Nat.le_trans h.sz hs⟩

theorem HR.drew {β : Ren} {H : Heap} {X : XF} {base : Nat} {w : World} (h : HR β H X base w) : HR β H X base w.drew := h.world (fun _ _ _ => rfl) (Nat.le_refl _)

theorem HR.liveLt {β : Ren} {H : Heap} {X : XF} {base : Nat} {w : World} (h : HR β H X base w) {i : Nat} {T : Tgt} (hi : β i = .live T) : T.b < w.heap.size := by
  obtain ⟨x, hx⟩ := h.live i T hi
  obtain ⟨U, h1, h2, _⟩ := h.blk i x hx
  rw [hi] at h1
  cases h1
  exact h2.lt

/- heaps that hold the same -/
theorem HR.congr {β : Ren} {H H' : Heap} {X X' : XF} {base : Nat} {w : World} (h : HR β H X base w) (e : ∀ i, getX H' X' i = getX H X i) (hn : H.next ≤ H'.next)
    (hf : ∀ i, H'.next ≤ i → β i = .un) (hd : ∀ i x, X' i = some x → H'.get i = none ∧ i < H'.next) (hr : ∀ i, X' i = some none → β i = .un) : HR β H' X' base w :=
  ⟨Nat.le_trans h.next hn, hf, fun i x hx => (hd i x hx).1, fun i x hx => (hd i x hx).2, hr,
    fun i x hx => h.blk i x (e i ▸ hx), fun i T hT => by obtain ⟨x, hx⟩ := h.live i T hT; exact ⟨x, (e i).trans hx⟩, h.inj, h.sz⟩

/- get behind put -/
theorem Heap.get_put {H : Heap} {i j : Nat} {x : Option Blk} (hi : base0 ≤ i) : (H.put i x).get j = if j = i then x else H.get j := by
  have hi' : ¬ i < base0 := by omega
  have e0 : H.put i x = { H with tr := H.tr.put (i - base0) x } := by unfold Heap.put; rw [if_neg hi']
  rw [e0]
  unfold Heap.get
  by_cases hj : j < base0
  · rw [if_pos hj, if_neg (by omega), if_pos hj]
  · rw [if_neg hj, if_neg hj]
    by_cases e : j = i
    · rw [if_pos e]; subst e; exact Tr.get_put_self _ _ _
    · rw [if_neg e]; exact Tr.get_put_ne _ _ (by omega)

theorem Heap.put_next (H : Heap) (i : Nat) (x : Option Blk) : (H.put i x).next = H.next := by unfold Heap.put; split <;> rfl
theorem Heap.get_set {H : Heap} {i j : Nat} {x : Blk} (hi : base0 ≤ i) : (H.set i x).get j = if j = i then some x else H.get j := Heap.get_put hi
theorem Heap.get_del {H : Heap} {i j : Nat} (hi : base0 ≤ i) : (H.del i).get j = if j = i then none else H.get j := Heap.get_put hi
@[simp] theorem Heap.set_next (H : Heap) (i : Nat) (x : Blk) : (H.set i x).next = H.next := Heap.put_next _ _ _
@[simp] theorem Heap.del_next (H : Heap) (i : Nat) : (H.del i).next = H.next := Heap.put_next _ _ _
@[simp] theorem Heap.alloc_next (H : Heap) (x : Blk) : (H.alloc x).next = H.next + 1 := rfl
theorem Heap.get_alloc {H : Heap} {j : Nat} {x : Blk} (hi : base0 ≤ H.next) : (H.alloc x).get j = if j = H.next then some x else H.get j := by
  show (H.put H.next (some x)).get j = _
  exact Heap.get_put hi

/- A NEW BLOCK: of number i, that nothing bears yet -/
theorem HR.add {β : Ren} {H H' : Heap} {X X' : XF} {base : Nat} {w : World} (h : HR β H X base w) (i : Nat) (x : Blk) (C : Array Value) (ty : TypeId)
    (hi : base0 ≤ i) (hu : β i = .un) (hl : i < H'.next) (hn : H.next ≤ H'.next) (hg : ∀ j, getX H' X' j = if j = i then some x else getX H X j)
    (hd : ∀ j q, X' j = some q → H'.get j = none ∧ j < H'.next) (hres : ∀ j, X' j = some none → j ≠ i ∧ X j = some none)
    (hsz : x.cells.length ≤ C.size) (hc : LR β x.cells (C.toList.take x.cells.length)) :
    let β' := upd β i (.live ⟨w.heap.size, 0, x.cells.length, C.size, x.es, x.opn⟩)
    Le β β' ∧ HR β' H' X' base (w.alloc (.cells C ty)) := by
  intro β'
  have hle : Le β β' := Le.upd hu
  refine ⟨hle, ⟨Nat.le_trans h.next hn, ?_, fun j q hq => (hd j q hq).1, fun j q hq => (hd j q hq).2, ?_, ?_, ?_, ?_, ?_⟩⟩
  · intro j hj
    show upd β i _ j = _
    rw [upd_ne _ _ (by omega)]
    exact h.fresh j (by omega)
  · intro j hj
    obtain ⟨h1, h2⟩ := hres j hj
    show upd β i _ j = _
    rw [upd_ne _ _ h1]
    exact h.res j h2
  · intro j y hy
    rw [hg] at hy
    by_cases e : j = i
    · subst e
      rw [if_pos rfl, Option.some.injEq] at hy
      subst hy
      refine ⟨_, upd_self _ _ _, ⟨rfl, rfl, rfl, by simpa using hsz, C, ty, (0, 0), ?_, rfl, fun _ => rfl, ?_⟩, ?_⟩
      · exact heap_alloc_new _ _
      · simpa using hc.mono hle
      · rw [if_pos hi]; exact h.sz
    · rw [if_neg e] at hy
      obtain ⟨T, h1, h2, h3⟩ := h.blk j y hy
      refine ⟨T, by show upd β i _ j = _; rw [upd_ne _ _ e]; exact h1, (h2.mono hle).world (Below.heap_alloc _ _ _ h2.lt), h3⟩
  · intro j T hT
    by_cases e : j = i
    · exact ⟨x, by rw [hg, if_pos e]⟩
    · have hT' : β j = .live T := by have : upd β i _ j = _ := hT; rwa [upd_ne _ _ e] at this
      obtain ⟨y, hy⟩ := h.live j T hT'
      exact ⟨y, by rw [hg, if_neg e]; exact hy⟩
  · intro j k T U hj hk hT hU hb
    by_cases e : j = i
    · by_cases f : k = i
      · omega
      · have hU' : β k = .live U := by have : upd β i _ k = _ := hU; rwa [upd_ne _ _ f] at this
        have hT' : upd β i _ j = .live T := hT
        rw [e, upd_self] at hT'
        cases hT'
        have := h.liveLt hU'
        simp at hb
        omega
    · have hT' : β j = .live T := by have : upd β i _ j = _ := hT; rwa [upd_ne _ _ e] at this
      by_cases f : k = i
      · have hU' : upd β i _ k = .live U := hU
        rw [f, upd_self] at hU'
        cases hU'
        have := h.liveLt hT'
        simp at hb
        omega
      · have hU' : β k = .live U := by have : upd β i _ k = _ := hU; rwa [upd_ne _ _ f] at this
        exact h.inj j k T U hj hk hT' hU' hb
  · rw [World.size_alloc]; exact Nat.le_trans h.sz (Nat.le_succ _)

/- nothing is set aside at the next number -/
theorem HR.xnext {β : Ren} {H : Heap} {X : XF} {base : Nat} {w : World} (h : HR β H X base w) {i : Nat} (hi : H.next ≤ i) : X i = none := by
  cases hX : X i with
  | none => rfl
  | some q => have := h.xlt i q hX; omega

/- a new block in the heap, at a number that is not set aside -/
theorem getX_new {H H' : Heap} {X : XF} {i : Nat} {x : Blk} (hg : ∀ j, H'.get j = if j = i then some x else H.get j) (j : Nat) : getX H' X j = if j = i then some x else getX H X j := by
  simp only [getX, hg]
  by_cases e : j = i
  · simp [e]
  · simp [e]

theorem HR.dnew {β : Ren} {H H' : Heap} {X : XF} {base : Nat} {w : World} (h : HR β H X base w) {i : Nat} {x : Blk} (hn : H.next ≤ H'.next) (hg : ∀ j, H'.get j = if j = i then some x else H.get j) (hXi : X i = none) :
    ∀ j q, X j = some q → H'.get j = none ∧ j < H'.next := by
  intro j q hq
  refine ⟨?_, Nat.lt_of_lt_of_le (h.xlt j q hq) hn⟩
  rw [hg, if_neg (by intro e; subst e; rw [hXi] at hq; cases hq)]
  exact h.disj j q hq

/- A STORE into a block of the call's own: the cells turn, the numbers stay -/
theorem HR.put {β : Ren} {H H' : Heap} {X : XF} {base : Nat} {w : World} (h : HR β H X base w) (i : Nat) (x y : Blk) (T : Tgt) (C C' : Array Value) (ty : TypeId)
    (hi : base0 ≤ i) (hx : H.get i = some x) (hT : β i = .live T) (hC : w.heap[T.b]? = some (.cells C ty (0, 0))) (hn : H'.next = H.next)
    (hg : ∀ j, H'.get j = if j = i then some y else H.get j) (hy : y.cells.length = x.cells.length) (hye : y.es = x.es) (hyo : y.opn = x.opn)
    (hC' : C'.size = C.size) (hc : LR β y.cells ((C'.toList.drop T.p).take T.n)) :
    HR β H' X base (w.setRow T.b C') := by
  have hother : ∀ j U, β j = .live U → j ≠ i → U.b ≠ T.b := by
    intro j U hU hne hb
    obtain ⟨z, hz⟩ := h.live j U hU
    obtain ⟨U', h1, _, h3⟩ := h.blk j z hz
    rw [hU] at h1
    cases h1
    obtain ⟨T', k1, _, k3⟩ := h.mem hx
    rw [hT] at k1
    cases k1
    rw [if_pos hi] at k3
    by_cases hj : base0 ≤ j
    · exact hne (h.inj j i U T hj hi hU hT hb)
    · rw [if_neg hj] at h3; omega
  obtain ⟨T', k1, k2, k3⟩ := h.mem hx
  rw [hT] at k1
  cases k1
  obtain ⟨C0, ty0, fz0, o1, o2, _, _⟩ := k2.obj
  rw [hC] at o1
  cases o1
  refine ⟨by rw [hn]; exact h.next, by rw [hn]; exact h.fresh, ?_, by rw [hn]; exact h.xlt, h.res, ?_, ?_, h.inj, by rw [setRow_size]; exact h.sz⟩
  · intro j z hz
    rw [hg, if_neg (by intro e; subst e; have := h.disj j z hz; rw [hx] at this; cases this)]
    exact h.disj j z hz
  · intro j z hz
    by_cases e : j = i
    · subst e
      have hz' : y = z := by simpa [getX, hg] using hz
      subst hz'
      refine ⟨T, hT, ⟨by rw [k2.n, hy], by rw [k2.es, hye], by rw [k2.opn, hyo], k2.le, C', ty, (0, 0), setRow_heap w T.b C C' ty (0, 0) hC, by rw [hC', o2], fun _ => rfl, hc⟩, k3⟩
    · have hz' : getX H X j = some z := by simpa [getX, hg, e] using hz
      obtain ⟨U, h1, h2, h3⟩ := h.blk j z hz'
      exact ⟨U, h1, h2.world (setRow_other w T.b U.b C' (hother j U h1 e)), h3⟩
  · intro j U hU
    by_cases e : j = i
    · subst e; exact ⟨y, by simp [getX, hg]⟩
    · obtain ⟨z, hz⟩ := h.live j U hU
      exact ⟨z, by simpa [getX, hg, e] using hz⟩

/- the old number is dead -/
theorem HR.kill {β : Ren} {H H' : Heap} {X : XF} {base : Nat} {w : World} (h : HR β H X base w) (i : Nat) (hi : base0 ≤ i) (hil : i < H.next) (hXi : X i = none)
    (hn : H'.next = H.next) (hg : ∀ j, H'.get j = if j = i then none else H.get j) : HR (upd β i .dead) H' X base w := by
  have hle := Le.kill β i
  refine ⟨by rw [hn]; exact h.next, ?_, ?_, by rw [hn]; exact h.xlt, ?_, ?_, ?_, ?_, h.sz⟩
  · intro j hj
    rw [upd_ne _ _ (by omega)]
    exact h.fresh j (by omega)
  · intro j z hz
    rw [hg, if_neg (by intro e; subst e; rw [hXi] at hz; cases hz)]
    exact h.disj j z hz
  · intro j hj
    rw [upd_ne _ _ (by intro e; subst e; rw [hXi] at hj; cases hj)]
    exact h.res j hj
  · intro j z hz
    by_cases e : j = i
    · subst e; simp [getX, hg, hXi] at hz
    · have hz' : getX H X j = some z := by simpa [getX, hg, e] using hz
      obtain ⟨U, h1, h2, h3⟩ := h.blk j z hz'
      exact ⟨U, by rw [upd_ne _ _ e]; exact h1, h2.mono hle, h3⟩
  · intro j U hU
    by_cases e : j = i
    · subst e; rw [upd_self] at hU; cases hU
    · rw [upd_ne _ _ e] at hU
      obtain ⟨z, hz⟩ := h.live j U hU
      exact ⟨z, by simpa [getX, hg, e] using hz⟩
  · intro j k T U hj hk hT hU hb
    by_cases e : j = i
    · subst e; rw [upd_self] at hT; cases hT
    · by_cases f : k = i
      · subst f; rw [upd_self] at hU; cases hU
      · rw [upd_ne _ _ e] at hT; rw [upd_ne _ _ f] at hU
        exact h.inj j k T U hj hk hT hU hb

/- A block that was killed lives on where it lies, under a new number, with more cells of the same row -/
theorem HR.reuse {β : Ren} {H H' : Heap} {X : XF} {base : Nat} {w : World} (h : HR β H X base w) (i : Nat) (x : Blk) (T : Tgt) (C : Array Value) (ty : TypeId)
    (hi : base0 ≤ i) (hu : β i = .un) (hl : i < H'.next) (hn : H.next ≤ H'.next) (hg : ∀ j, H'.get j = if j = i then some x else H.get j) (hXi : X i = none)
    (hfree : ∀ j U, base0 ≤ j → β j = .live U → U.b ≠ T.b) (hb : base ≤ T.b) (hC : w.heap[T.b]? = some (.cells C ty (0, 0))) (hm : C.size = T.m)
    (h1 : T.n = x.cells.length) (h2 : T.es = x.es) (h3 : T.opn = x.opn) (h4 : T.p + T.n ≤ T.m) (hc : LR β x.cells ((C.toList.drop T.p).take T.n)) :
    Le β (upd β i (.live T)) ∧ HR (upd β i (.live T)) H' X base w := by
  have hle : Le β (upd β i (.live T)) := Le.upd hu
  refine ⟨hle, ⟨Nat.le_trans h.next hn, ?_, fun j q hq => (h.dnew hn hg hXi j q hq).1, fun j q hq => (h.dnew hn hg hXi j q hq).2, ?_, ?_, ?_, ?_, h.sz⟩⟩
  · intro j hj
    rw [upd_ne _ _ (by omega)]
    exact h.fresh j (by omega)
  · intro j hj
    rw [upd_ne _ _ (by intro e; subst e; rw [hXi] at hj; cases hj)]
    exact h.res j hj
  · intro j y hy
    by_cases e : j = i
    · subst e
      have hy' : x = y := by simpa [getX, hg] using hy
      subst hy'
      exact ⟨T, upd_self _ _ _, ⟨h1, h2, h3, h4, C, ty, (0, 0), hC, hm, fun _ => rfl, hc.mono hle⟩, by rw [if_pos hi]; exact hb⟩
    · have hy' : getX H X j = some y := by simpa [getX, hg, e] using hy
      obtain ⟨U, k1, k2, k3⟩ := h.blk j y hy'
      exact ⟨U, by rw [upd_ne _ _ e]; exact k1, k2.mono hle, k3⟩
  · intro j U hU
    by_cases e : j = i
    · subst e; exact ⟨x, by simp [getX, hg]⟩
    · rw [upd_ne _ _ e] at hU
      obtain ⟨y, hy⟩ := h.live j U hU
      exact ⟨y, by simpa [getX, hg, e] using hy⟩
  · intro j k A B hj hk hA hB hab
    by_cases e : j = i
    · by_cases f : k = i
      · omega
      · rw [e, upd_self] at hA; cases hA
        rw [upd_ne _ _ f] at hB
        exact absurd hab.symm (hfree k B hk hB)
    · rw [upd_ne _ _ e] at hA
      by_cases f : k = i
      · rw [f, upd_self] at hB; cases hB
        exact absurd hab (hfree j A hj hA)
      · rw [upd_ne _ _ f] at hB
        exact h.inj j k A B hj hk hA hB hab

end Go.Am
