/- A calculus of weakest conditions over compact code; its code is made from the program's by a function. Conditions: those of each theorem. -/
import Derived.Test.YthanhcpnhionaaaAmStep
set_option linter.all false
set_option linter.unusedSimpArgs false
set_option linter.unusedVariables false
namespace Go.Am

/- an operation: its slot, or none; or guarded by a slot -/
inductive IOp where
  | o (d : Tmp) (op : Op)
  | n (op : Op)
  | g (t : Tmp) (w : Bool) (d : Option Tmp) (op : Op)

/- an operation of a region that draws its order: what it is; quiet, new block, reading, of the chain -/
inductive DK where
  | q
  | a (i : Nat)
  | r (i : Nat) (sees nb : List Nat)
  | c (i : Nat) (vis re : List Nat)

structure DOp where
  gd : Option (Tmp × Bool)
  d : Option Tmp
  op : Op
  k : DK

inductive IC where
  | skip | ret | bad
  | reg (l : List IOp)
  | regb (n : Nat) (l : List IOp)
  | drl (n : Nat) (l : List DOp)
  | drw (n : Nat) (l : List DOp)
  | seq (a b : IC)
  | cond (c : Operand) (a b : IC)
  | block (id : Nat) (b : IC)
  | loop (b : IC)
  | exit (id : Nat)

def cmpO (ops : Array Oper) (o : Oper) : Option IOp :=
  match o.guard, o.dst with
  | none, some d => some (.o d o.op)
  | none, none => some (.n o.op)
  | some (j, w), d => ((ops[j]?).bind (·.dst)).map fun t => .g t w d o.op

def cmpL (ops : Array Oper) : List Oper → Option (List IOp)
  | [] => some []
  | o :: rest => (cmpO ops o).bind fun x => (cmpL ops rest).map fun l => x :: l

def kdAt (ops : Array Oper) (k : Nat) (x : Kd) : Bool := match ops[k]? with | some o => kdA o == x | none => false

def cmpK (ops : Array Oper) (b : Array Nat) (i : Nat) (o : Oper) : Option DK :=
  match kdA o with
  | .quiet => some .q
  | .alloc => some (.a i)
  | .read => some (.r i ((List.range i).filter fun k => kdAt ops k .alloc && ancA b i k) ((List.range i).filter fun k => kdAt ops k .chain && !ancA b i k))
  | .chain =>
    if (List.range i).all fun k => !kdAt ops k .chain || ancA b i k then
      some (.c i ((List.range i).filter fun k => kdAt ops k .alloc && ancA b i k) ((List.range i).filter fun k => kdAt ops k .read && !ancA b i k))
    else none

def cmpG (ops : Array Oper) (o : Oper) : Option (Option (Tmp × Bool)) :=
  match o.guard with
  | none => some none
  | some (j, w) => ((ops[j]?).bind (·.dst)).map fun t => some (t, w)

def cmpD (ops : Array Oper) (b : Array Nat) : Nat → List Oper → Option (List DOp)
  | _, [] => some []
  | i, o :: rest => (cmpK ops b i o).bind fun k => (cmpG ops o).bind fun g => (cmpD ops b (i + 1) rest).map fun l => { gd := g, d := o.dst, op := o.op, k := k } :: l

/- a region in which no reading crosses an operation of the chain -/
def lightD (o : DOp) : Bool :=
  match o.k with
  | .q => true
  | .a _ => true
  | .r _ _ nb => nb.isEmpty
  | .c _ _ re => re.isEmpty
/- .. and that makes no block -/
def lightI (o : DOp) : Bool :=
  match o.k with
  | .q => true
  | .a _ => false
  | .r _ sees nb => sees.isEmpty && nb.isEmpty && kdA { dst := none, op := o.op, type := 0, pos := "", after := #[], guard := none } == .read
  | .c _ vis re => vis.isEmpty && re.isEmpty

def toI (o : DOp) : IOp :=
  match o.gd, o.d with
  | none, some d => .o d o.op
  | none, none => .n o.op
  | some (t, w), d => .g t w d o.op

def cmpR (n : Nat) (l : List DOp) : IC :=
  if l.all lightI then .regb n (l.map toI) else if l.all lightD then .drl n l else .drw n l

def cmpC : Code → IC
  | .skip => .skip
  | .ret => .ret
  | .exit id => .exit id
  | .seq a b => .seq (cmpC a) (cmpC b)
  | .cond c a b => .cond c (cmpC a) (cmpC b)
  | .block id b => .block id (cmpC b)
  | .loop b => .loop (cmpC b)
  | .region _ ops draw =>
    if draw && !(okD ops && calmD ops) then
      if okD ops then match cmpD ops (Region.before ops) 0 ops.toList with
        | some l => cmpR (ops.size + 1) l
        | none => .bad
      else .bad
    else match cmpL ops ops.toList with
      | some l => .reg l
      | none => .bad
  | _ => .bad

def thenN (k : St → Prop) (Q : Ex → St → Prop) : Ex → St → Prop
  | .normal, s => k s
  | e, s => Q e s
@[simp] theorem thenN_normal (k : St → Prop) (Q : Ex → St → Prop) (s : St) : thenN k Q .normal s = k s := rfl
@[simp] theorem thenN_ret (k : St → Prop) (Q : Ex → St → Prop) (s : St) : thenN k Q .ret s = Q .ret s := rfl
@[simp] theorem thenN_exit (k : St → Prop) (Q : Ex → St → Prop) (i : Nat) (s : St) : thenN k Q (.exit i) s = Q (.exit i) s := rfl
@[simp] theorem thenN_panic (k : St → Prop) (Q : Ex → St → Prop) (v : Value) (s : St) : thenN k Q (.panic v) s = Q (.panic v) s := rfl

def blk (id : Nat) (Q : Ex → St → Prop) : Ex → St → Prop
  | .exit i, s => if i = id then Q .normal s else Q (.exit i) s
  | e, s => Q e s
@[simp] theorem blk_normal (id : Nat) (Q : Ex → St → Prop) (s : St) : blk id Q .normal s = Q .normal s := rfl
@[simp] theorem blk_ret (id : Nat) (Q : Ex → St → Prop) (s : St) : blk id Q .ret s = Q .ret s := rfl
@[simp] theorem blk_panic (id : Nat) (Q : Ex → St → Prop) (v : Value) (s : St) : blk id Q (.panic v) s = Q (.panic v) s := rfl
@[simp] theorem blk_exit (id i : Nat) (Q : Ex → St → Prop) (s : St) : blk id Q (.exit i) s = if i = id then Q .normal s else Q (.exit i) s := rfl

section
variable (P : Program)

/- one operation -/
def WO (op : Op) (d : Option Tmp) (s : St) (K : Ex → St → Prop) : Prop :=
  ∃ e s', doOp P (callW P) { dst := d, op := op, type := 0, pos := "", after := #[], guard := none } s = some (e, s') ∧ K e s'

def isB (v : Value) (w : Bool) : Prop := v = .bool w

/- what a guard's slot says: a Bool, or that its own operation was not done (then what it guards is not done either) -/
def gB (v : Option Value) (w b : Bool) : Prop := v = some (.bool b) ∨ (v = some undef ∧ b = !w)

def WL : List IOp → St → (Ex → St → Prop) → Prop
  | [], s, Q => Q .normal s
  | .o d op :: rest, s, Q => WO P op (some d) s (thenN (fun s => WL rest s Q) Q)
  | .n op :: rest, s, Q => WO P op none s (thenN (fun s => WL rest s Q) Q)
  | .g t w d op :: rest, s, Q => ∃ b, gB (s.f.get t) w b ∧ if b = w then WO P op d s (thenN (fun s => WL rest s Q) Q) else WL rest (s.put d undef) Q

structure RdE where
  k : Nat
  op : Op
  s : St
  v : Value
  sees : List Nat

structure DX where
  s : St
  A : List (Nat × Blk)
  hist : List (Nat × Heap)
  rd : List RdE

def RD (op : Op) (s : St) (H : Heap) (v : Value) : Prop :=
  ∃ H', opA P { dst := none, op := op, type := 0, pos := "", after := #[], guard := none } s.ev H = some (.val v, H')

def gW (g : Option (Tmp × Bool)) (s : St) (x y : Prop) : Prop :=
  match g with
  | none => x
  | some (t, w) => ∃ b, gB (s.f.get t) w b ∧ if b = w then x else y

def bump (H : Heap) (n : Nat) : Heap := { H with next := H.next + n }

def wdB (r0 : Nat) (k : DX → Prop) (o : DOp) (x : DX) : Prop :=
  match o.k with
  | .q => WO P o.op o.d x.s (thenN (fun s => k { x with s := s }) (fun _ _ => False))
  | .a i => ∃ r, allocA P o.op x.s.ev = some r ∧ k { x with s := x.s.put o.d (r.1 (r0 + i)), A := x.A ++ [(i, r.2)] }
  | .r i sees nb => ∃ v, RD P o.op x.s (layA r0 x.s.H (x.A.filter fun p => sees.contains p.1)) v ∧
      (∀ h ∈ x.hist.takeWhile fun h => nb.contains h.1, RD P o.op x.s (layA r0 h.2 (x.A.filter fun p => sees.contains p.1)) v) ∧
      k { x with s := x.s.put o.d v, rd := ⟨i, o.op, x.s, v, sees⟩ :: x.rd }
  | .c i vis re => WO P o.op o.d (setH x.s (layA r0 x.s.H (x.A.filter fun p => vis.contains p.1))) (thenN (fun s =>
      (∀ e ∈ x.rd.filter fun e => re.contains e.k, RD P e.op e.s (layA r0 s.H ((x.A.filter fun p => !vis.contains p.1).filter fun p => e.sees.contains p.1)) e.v) ∧
      k { s := s, A := x.A.filter fun p => !vis.contains p.1, hist := (i, x.s.H) :: x.hist, rd := x.rd }) (fun _ _ => False))

def WD (r0 : Nat) : List DOp → DX → (St → Prop) → Prop
  | [], x, Q => Q (setH x.s (layA r0 x.s.H x.A))
  | o :: rest, x, Q => gW o.gd x.s (wdB P r0 (fun x => WD r0 rest x Q) o x) (WD r0 rest { x with s := x.s.put o.d undef } Q)

def weB (r0 : Nat) (k : St → List (Nat × Blk) → Prop) (o : DOp) (s : St) (A : List (Nat × Blk)) : Prop :=
  match o.k with
  | .q => WO P o.op o.d s (thenN (fun s => k s A) (fun _ _ => False))
  | .a i => ∃ r, allocA P o.op s.ev = some r ∧ k (s.put o.d (r.1 (r0 + i))) (A ++ [(i, r.2)])
  | .r _ sees _ => ∃ v, RD P o.op s (layA r0 s.H (A.filter fun p => sees.contains p.1)) v ∧ k (s.put o.d v) A
  | .c _ vis _ => WO P o.op o.d (setH s (layA r0 s.H (A.filter fun p => vis.contains p.1))) (thenN (fun s => k s (A.filter fun p => !vis.contains p.1)) (fun _ _ => False))

def WE (r0 : Nat) : List DOp → St → List (Nat × Blk) → (St → Prop) → Prop
  | [], s, A, Q => Q (setH s (layA r0 s.H A))
  | o :: rest, s, A, Q => gW o.gd s (weB P r0 (fun s A => WE r0 rest s A Q) o s A) (WE r0 rest (s.put o.d undef) A Q)

def Wq : IC → St → (Ex → St → Prop) → Prop
  | .skip, s, Q => Q .normal s
  | .ret, s, Q => Q .ret s
  | .bad, _, _ => False
  | .exit id, s, Q => Q (.exit id) s
  | .reg l, s, Q => WL P l s Q
  | .regb n l, s, Q => WL P l (setH s (bump s.H n)) (thenN (Q .normal) (fun _ _ => False))
  | .drl n l, s, Q => WE P s.H.next l (setH s (bump s.H n)) [] (Q .normal)
  | .drw n l, s, Q => WD P s.H.next l { s := setH s (bump s.H n), A := [], hist := [], rd := [] } (Q .normal)
  | .seq a b, s, Q => Wq a s (thenN (fun s => Wq b s Q) Q)
  | .cond c a b, s, Q => ∃ t, s.ev c = some (.bool t) ∧ if t then Wq a s Q else Wq b s Q
  | .block id b, s, Q => Wq b s (blk id Q)
  | .loop b, s, Q => ∀ R : St → Prop, (∀ s, Wq b s (thenN R Q) → R s) → R s

theorem WO_mono {op : Op} {d : Option Tmp} {s : St} {K K' : Ex → St → Prop} (h : WO P op d s K) (k : ∀ e s, K e s → K' e s) : WO P op d s K' := by
  obtain ⟨e, s', h1, h2⟩ := h
  exact ⟨e, s', h1, k _ _ h2⟩

theorem doOp_strip (cl : Cl) (o : Oper) (s : St) : doOp P cl o s = doOp P cl { dst := o.dst, op := o.op, type := 0, pos := "", after := #[], guard := none } s := by
  obtain ⟨d, op, ty, ps, af, gd⟩ := o
  rfl

theorem WL_run {ops : Array Oper} : ∀ (l : List Oper) (l' : List IOp), cmpL ops l = some l' → ∀ (s : St) (Q : Ex → St → Prop), WL P l' s Q → ∃ e s', runOps P (callW P) ops l s = some (e, s') ∧ Q e s'
  | [], l', h, s, Q, hw => by
    cases h
    exact ⟨_, _, rfl, hw⟩
  | o :: rest, l', h, s, Q, hw => by
    simp only [cmpL] at h
    cases hx : cmpO ops o with
    | none => rw [hx] at h; cases h
    | some x =>
      rw [hx] at h
      cases hr : cmpL ops rest with
      | none => rw [hr] at h; cases h
      | some r =>
        rw [hr] at h
        cases h
        have key : ∀ d, o.dst = d → WO P o.op d s (thenN (fun s => WL P r s Q) Q) → ∃ e s', (match doOp P (callW P) o s with | some (.normal, s') => runOps P (callW P) ops rest s' | r => r) = some (e, s') ∧ Q e s' := by
          intro d hd hk
          obtain ⟨e, s', h1, h2⟩ := hk
          rw [doOp_strip, hd, h1]
          cases e with
          | normal => exact WL_run rest r hr s' Q h2
          | exit i => exact ⟨_, _, rfl, h2⟩
          | ret => exact ⟨_, _, rfl, h2⟩
          | panic v => exact ⟨_, _, rfl, h2⟩
        simp only [runOps]
        unfold cmpO at hx
        split at hx
        · rename_i d hg hd
          cases hx
          rw [if_pos (by unfold wantedA; rw [hg])]
          exact key _ hd hw
        · rename_i hg hd
          cases hx
          rw [if_pos (by unfold wantedA; rw [hg])]
          exact key _ hd hw
        · rename_i j w hg
          cases ht : (ops[j]?).bind (·.dst) with
          | none => rw [ht] at hx; cases hx
          | some t =>
            rw [ht] at hx
            cases hx
            obtain ⟨b, hb, hw⟩ := hw
            have hwa : wantedA o ops s = (some b == some w) := by
              unfold wantedA
              rw [hg]
              simp only [yieldedA]
              rw [ht]
              dsimp only
              rcases hb with hb | ⟨hb, rfl⟩
              · rw [hb]
              · rw [hb]; cases w <;> rfl
            rw [hwa]
            by_cases hbw : b = w
            · subst hbw
              rw [if_pos (by simp)]
              rw [if_pos rfl] at hw
              exact key _ rfl hw
            · rw [if_neg (by simpa using hbw)]
              rw [if_neg hbw] at hw
              exact WL_run rest r hr _ Q hw

theorem bind_some' {α γ : Type} {x : Option α} {f : α → Option γ} {c : γ} (h : x.bind f = some c) : ∃ a, x = some a ∧ f a = some c := by
  cases x with
  | none => cases h
  | some a => exact ⟨a, rfl, h⟩
theorem map_some' {α γ : Type} {x : Option α} {f : α → γ} {c : γ} (h : x.map f = some c) : ∃ a, x = some a ∧ f a = c := by
  cases x with
  | none => cases h
  | some a => exact ⟨a, rfl, by cases h; rfl⟩

theorem opA_strip (o : Oper) (ev : Operand → Option Value) (H : Heap) : opA P o ev H = opA P { dst := none, op := o.op, type := 0, pos := "", after := #[], guard := none } ev H := by
  obtain ⟨d, op, ty, ps, af, gd⟩ := o
  rfl

mutual
theorem veq_refl : ∀ v : Value, veq v v = true
  | .bool a => by simp [veq]
  | .int k a => by simp [veq]
  | .float k a => by simp [veq]
  | .complex k a b => by simp [veq]
  | .string a => by
    simp only [veq]
    cases a with
    | mk d => show (d == d) = true; simp
  | .pointer a => by simp [veq]
  | .slice a l c => by simp [veq]
  | .map a => by simp [veq]
  | .chan a => by simp [veq]
  | .nilFunc => rfl
  | .nilIface => rfl
  | .func f x y => by simp [veq, veqA_refl x, veqA_refl y]
  | .iface t v => by simp [veq, veq_refl v]
  | .agg x => by simp [veq, veqA_refl x]
  | .tuple x => by simp [veq, veqA_refl x]
theorem veqA_refl : ∀ v : Array Value, veqA v v = true
  | ⟨x⟩ => by simp [veqA, veqL_refl x]
theorem veqL_refl : ∀ v : List Value, veqL v v = true
  | [] => rfl
  | x :: xs => by simp [veqL, veq_refl x, veqL_refl xs]
end


theorem kdAt_lt {ops : Array Oper} {k : Nat} {x : Kd} (h : kdAt ops k x = true) : k < ops.size := by
  unfold kdAt at h
  split at h
  · rename_i o ho; exact (Array.getElem?_eq_some_iff.1 ho).1
  · cases h

/- how the calculus' state stands to the machine's -/
def rel (ops : Array Oper) (b : Array Nat) (i : Nat) (y : DX) (x : DS) : Prop :=
  x.s = y.s ∧ x.A = y.A ∧ x.hist = y.hist.map (·.2) ∧ x.cs = y.hist.map (·.1) ∧
  (∀ p ∈ y.A, p.1 < i ∧ kdAt ops p.1 .alloc = true) ∧
  (∀ h ∈ y.hist, h.1 < i ∧ kdAt ops h.1 .chain = true) ∧
  x.rd.length = y.rd.length ∧
  ∀ (j : Nat) (e : RdE) (q : Nat × Oper × St × Value), y.rd[j]? = some e → x.rd[j]? = some q →
    q.1 = e.k ∧ q.2.1.op = e.op ∧ q.2.2.1 = e.s ∧ q.2.2.2 = e.v ∧ e.k < i ∧ kdAt ops e.k .read = true ∧
    e.sees = (List.range e.k).filter fun k => kdAt ops k .alloc && ancA b e.k k

theorem readsA_of {r0 : Nat} {b : Array Nat} {A : List (Nat × Blk)} {i : Nat} {o : Oper} {s : St} {H : Heap} {v : Value} {sees : List Nat}
    (hs : (A.filter fun p => ancA b i p.1) = A.filter fun p => sees.contains p.1) (h : RD P o.op s (layA r0 H (A.filter fun p => sees.contains p.1)) v) :
    readsA P r0 b A i o s H = some v := by
  obtain ⟨H', h⟩ := h
  unfold readsA
  rw [hs, opA_strip, h]

theorem sees_eq {ops : Array Oper} {b : Array Nat} {A : List (Nat × Blk)} {j : Nat} (hA : ∀ p ∈ A, kdAt ops p.1 .alloc = true)
    (hanc : ∀ k, k < ops.size → ancA b j k = true → k < j) :
    (A.filter fun p => ancA b j p.1) = A.filter fun p => ((List.range j).filter fun k => kdAt ops k .alloc && ancA b j k).contains p.1 := by
  apply List.filter_congr
  intro p hp
  rw [Bool.eq_iff_iff]
  simp only [List.contains_iff_mem, List.mem_filter, List.mem_range, Bool.and_eq_true]
  constructor
  · intro h; exact ⟨hanc _ (kdAt_lt (hA p hp)) h, hA p hp, h⟩
  · intro h; exact h.2.2

theorem WD_sound {ops : Array Oper} {b : Array Nat} {r0 : Nat} (hanc : ∀ j, j < ops.size → ∀ k, k < ops.size → ancA b j k = true → k < j) :
    ∀ (l : List Oper) (i : Nat) (l' : List DOp), (∀ j o, l[j]? = some o → ops[i + j]? = some o) → cmpD ops b i l = some l' → ∀ (y : DX) (x : DS) (Q : St → Prop), rel ops b i y x → WD P r0 l' y Q →
    ∃ x', runD P (callW P) ops b r0 i l x = some x' ∧ Q (setH x'.s (layA r0 x'.s.H x'.A))
  | [], i, l', _, h, y, x, Q, hr, hw => by
    cases h
    refine ⟨x, rfl, ?_⟩
    rw [hr.1, hr.2.1]; exact hw
  | o :: rest, i, l', hl, h, y, x, Q, hr, hw => by
    simp only [cmpD] at h
    obtain ⟨k, hk, h⟩ := bind_some' h
    obtain ⟨g, hg, h⟩ := bind_some' h
    obtain ⟨r, hrest, h⟩ := map_some' h
    subst h
    have hl' : ∀ j o, rest[j]? = some o → ops[i + 1 + j]? = some o := by
      intro j o hj
      have := hl (j + 1) o (by simpa using hj)
      rwa [show i + 1 + j = i + (j + 1) by omega]
    have hoi : ops[i]? = some o := by simpa using hl 0 o (by simp)
    have hi : i < ops.size := (Array.getElem?_eq_some_iff.1 hoi).1
    have ih := fun (y : DX) (x : DS) (Q : St → Prop) (hr : rel ops b (i + 1) y x) (hw : WD P r0 r y Q) => WD_sound hanc rest (i + 1) r hl' hrest y x Q hr hw
    obtain ⟨h1, h2, h3, h4, h5, h6, h7, h8⟩ := hr
    have relS : ∀ s : St, rel ops b (i + 1) { y with s := s } { x with s := s } := fun s =>
      ⟨rfl, h2, h3, h4, fun p hp => ⟨by have := (h5 p hp).1; omega, (h5 p hp).2⟩, fun p hp => ⟨by have := (h6 p hp).1; omega, (h6 p hp).2⟩, h7,
       fun j e q he hq => by obtain ⟨a1, a2, a3, a4, a5, a6, a7⟩ := h8 j e q he hq; exact ⟨a1, a2, a3, a4, by omega, a6, a7⟩⟩
    simp only [runD]
    have unwanted : wantedA o ops x.s = false → WD P r0 r { y with s := y.s.put o.dst undef } Q →
        ∃ x', (stepD P (callW P) ops b r0 i o x).bind (runD P (callW P) ops b r0 (i + 1) rest) = some x' ∧ Q (setH x'.s (layA r0 x'.s.H x'.A)) := by
      intro hwa hw
      unfold stepD
      rw [hwa]
      simp only [Bool.false_eq_true, if_false, Option.bind_some]
      refine ih _ _ Q ?_ hw
      rw [h1]; exact relS _
    have wanted : wantedA o ops x.s = true → wdB P r0 (fun x => WD P r0 r x Q) { gd := g, d := o.dst, op := o.op, k := k } y →
        ∃ x', (stepD P (callW P) ops b r0 i o x).bind (runD P (callW P) ops b r0 (i + 1) rest) = some x' ∧ Q (setH x'.s (layA r0 x'.s.H x'.A)) := by
      intro hwa hw
      unfold stepD
      rw [hwa]
      simp only [if_true]
      unfold cmpK at hk
      cases hkd : kdA o with
      | quiet =>
        rw [hkd] at hk
        cases hk
        obtain ⟨e, s', hd, hq⟩ := hw
        unfold doOp at hd
        obtain ⟨⟨v, H⟩, ho, hd⟩ := bind_some hd
        have ho' : opA P o y.s.ev y.s.H = some (v, H) := by rw [opA_strip]; exact ho
        have hH := (quiet_indep hkd ho').1
        obtain ⟨u, rfl⟩ := calm_isval (.inl hkd) ho'
        subst hH
        cases hd
        rw [h1]
        simp only [ho', Option.bind_eq_bind, Option.bind_some]
        refine ih _ _ Q ?_ hq
        exact relS _
      | alloc =>
        rw [hkd] at hk
        cases hk
        obtain ⟨q, hq, hw⟩ := hw
        rw [h1]
        simp only [hq, Option.bind_eq_bind, Option.bind_some]
        refine ih _ _ Q ?_ hw
        refine ⟨rfl, by rw [h2], h3, h4, ?_, (relS x.s).2.2.2.2.2.1, h7, (relS x.s).2.2.2.2.2.2.2⟩
        intro p hp
        rcases List.mem_append.1 hp with hp | hp
        · exact (relS x.s).2.2.2.2.1 p hp
        · simp only [List.mem_singleton] at hp
          subst hp
          refine ⟨Nat.lt_succ_self i, ?_⟩
          unfold kdAt
          rw [hoi]; simp [hkd]
      | read =>
        rw [hkd] at hk
        cases hk
        obtain ⟨v, hv, hb, hw⟩ := hw
        have hse := sees_eq (ops := ops) (b := b) (A := y.A) (fun p hp => (h5 p hp).2) (hanc i hi)
        have hrd := readsA_of P hse hv
        rw [h1, h2]
        simp only [hrd, Option.bind_eq_bind, Option.bind_some]
        have hback : backA P r0 b y.A i o y.s v x.cs x.hist = true := by
          rw [h3, h4]
          have : ∀ hs : List (Nat × Heap), (∀ h ∈ hs, h.1 < i ∧ kdAt ops h.1 .chain = true) →
              (∀ h ∈ hs.takeWhile fun h => ((List.range i).filter fun k => kdAt ops k .chain && !ancA b i k).contains h.1, RD P o.op y.s (layA r0 h.2 (y.A.filter fun p => ((List.range i).filter fun k => kdAt ops k .alloc && ancA b i k).contains p.1)) v) →
              backA P r0 b y.A i o y.s v (hs.map (·.1)) (hs.map (·.2)) = true := by
            intro hs
            induction hs with
            | nil => intro _ _; rfl
            | cons c hs ihs =>
              intro hc hh
              simp only [List.map_cons, backA]
              split
              · rfl
              · rename_i hna
                have hnb : ((List.range i).filter fun k => kdAt ops k .chain && !ancA b i k).contains c.1 = true := by
                  simp only [List.contains_iff_mem, List.mem_filter, List.mem_range, Bool.and_eq_true, Bool.not_eq_true']
                  exact ⟨(hc c (by simp)).1, (hc c (by simp)).2, by simpa using hna⟩
                rw [List.takeWhile_cons_of_pos (p := fun h : Nat × Heap => ((List.range i).filter fun k => kdAt ops k .chain && !ancA b i k).contains h.1) hnb] at hh
                rw [readsA_of P hse (hh c (by simp))]
                simp only [veq_refl, Bool.true_and]
                exact ihs (fun h hm => hc h (by simp [hm])) (fun h hm => hh h (List.mem_cons_of_mem _ hm))
          exact this y.hist h6 hb
        rw [hback]
        simp only [if_true, Option.bind_some]
        refine ih _ _ Q ?_ hw
        refine ⟨rfl, rfl, h3, h4, (relS x.s).2.2.2.2.1, (relS x.s).2.2.2.2.2.1, by simp [h7], ?_⟩
        intro j e q he hq
        cases j with
        | zero =>
          simp only [List.getElem?_cons_zero, Option.some.injEq] at he hq
          subst he hq
          refine ⟨rfl, rfl, rfl, rfl, Nat.lt_succ_self i, ?_, rfl⟩
          unfold kdAt
          rw [hoi]; simp [hkd]
        | succ j =>
          simp only [List.getElem?_cons_succ] at he hq
          exact (relS x.s).2.2.2.2.2.2.2 j e q he hq
      | chain =>
        rw [hkd] at hk
        simp only at hk
        split at hk
        case isFalse => cases hk
        rename_i hch
        cases hk
        have hcs : x.cs.all (ancA b i) = true := by
          rw [h4, List.all_eq_true]
          intro c hc
          obtain ⟨h, hh, rfl⟩ := List.mem_map.1 hc
          have := List.all_eq_true.1 hch h.1 (List.mem_range.2 (h6 h hh).1)
          simpa [(h6 h hh).2] using this
        rw [hcs]
        simp only [if_true]
        have hse := sees_eq (ops := ops) (b := b) (A := y.A) (fun p hp => (h5 p hp).2) (hanc i hi)
        obtain ⟨e, s', hd, hq⟩ := hw
        have hnf : (y.A.filter fun p => !ancA b i p.1) = y.A.filter fun p => !((List.range i).filter fun k => kdAt ops k .alloc && ancA b i k).contains p.1 := by
          apply List.filter_congr
          intro p hp
          have : ancA b i p.1 = ((List.range i).filter fun k => kdAt ops k .alloc && ancA b i k).contains p.1 := by
            rw [Bool.eq_iff_iff]
            simp only [List.contains_iff_mem, List.mem_filter, List.mem_range, Bool.and_eq_true]
            exact ⟨fun h => ⟨hanc i hi _ (kdAt_lt (h5 p hp).2) h, (h5 p hp).2, h⟩, fun h => h.2.2⟩
          rw [this]
        have hd' : doOp P (callW P) o { y.s with H := layA r0 y.s.H (y.A.filter fun p => ancA b i p.1) } = some (e, s') := by
          rw [doOp_strip, hse]; exact hd
        rw [h1, h2]
        simp only [hd', Option.bind_eq_bind, Option.bind_some]
        cases e with
        | normal =>
          obtain ⟨hre, hw⟩ := hq
          have hall : (x.rd.all fun (k, ok, sk, v) => ancA b i k || (match readsA P r0 b (y.A.filter fun p => !ancA b i p.1) k ok sk s'.H with | some u => veq u v | none => false)) = true := by
            rw [List.all_eq_true]
            intro q hqm
            obtain ⟨j, hj⟩ := List.mem_iff_getElem?.1 hqm
            have hjl : j < y.rd.length := by
              rw [← h7]; exact (List.getElem?_eq_some_iff.1 hj).1
            obtain ⟨e, he⟩ : ∃ e, y.rd[j]? = some e := ⟨_, List.getElem?_eq_getElem hjl⟩
            obtain ⟨a1, a2, a3, a4, a5, a6, a7⟩ := h8 j e q he hj
            obtain ⟨qk, qo, qs, qv⟩ := q
            simp only at a1 a2 a3 a4
            subst a1 a3 a4
            show (ancA b i e.k || (match readsA P r0 b (y.A.filter fun p => !ancA b i p.1) e.k qo e.s s'.H with | some u => veq u e.v | none => false)) = true
            cases hax : ancA b i e.k with
            | true => rfl
            | false =>
              simp only [Bool.false_or]
              have hmem : e ∈ y.rd.filter fun e => ((List.range i).filter fun k => kdAt ops k .read && !ancA b i k).contains e.k := by
                simp only [List.mem_filter, List.contains_iff_mem, List.mem_range, Bool.and_eq_true, Bool.not_eq_true']
                exact ⟨List.mem_iff_getElem?.2 ⟨j, he⟩, a5, a6, hax⟩
              have hrd := hre e hmem
              rw [← a2] at hrd
              have hs2 := sees_eq (ops := ops) (b := b) (A := y.A.filter fun p => !ancA b i p.1) (fun p hp => (h5 p (List.mem_filter.1 hp).1).2) (hanc e.k (kdAt_lt a6))
              rw [← a7] at hs2
              rw [readsA_of P hs2 (by rw [hnf]; exact hrd)]
              exact veq_refl _
          have e2 : ∀ (c : Bool) (z : DS), c = true → ((if c = true then some z else none).bind (runD P (callW P) ops b r0 (i + 1) rest)) = runD P (callW P) ops b r0 (i + 1) rest z := by
            intro c z hc; rw [hc]; rfl
          have hrel : rel ops b (i + 1) { s := s', A := y.A.filter fun p => !((List.range i).filter fun k => kdAt ops k .alloc && ancA b i k).contains p.1, hist := (i, y.s.H) :: y.hist, rd := y.rd } { s := s', A := y.A.filter fun p => !ancA b i p.1, hist := y.s.H :: x.hist, cs := i :: x.cs, rd := x.rd } := by
            refine ⟨rfl, hnf, by simp [h3], by simp [h4], ?_, ?_, h7, (relS x.s).2.2.2.2.2.2.2⟩
            · intro p hp
              exact (relS x.s).2.2.2.2.1 p (List.mem_filter.1 hp).1
            · intro h hh
              rcases List.mem_cons.1 hh with hh | hh
              · subst hh
                refine ⟨Nat.lt_succ_self i, ?_⟩
                unfold kdAt
                rw [hoi]; simp [hkd]
              · exact (relS x.s).2.2.2.2.2.1 h hh
          obtain ⟨x', hx1, hx2⟩ := ih _ _ Q hrel hw
          exact ⟨x', (e2 _ _ hall).trans hx1, hx2⟩
        | exit i => exact hq.elim
        | ret => exact hq.elim
        | panic v => exact hq.elim
    unfold cmpG at hg
    have hw' := hw
    simp only [WD] at hw'
    split at hg
    · rename_i hgn
      cases hg
      exact wanted (by unfold wantedA; rw [hgn]) hw'
    · rename_i j w hgn
      obtain ⟨t, ht, rfl⟩ := map_some' hg
      obtain ⟨bb, hbb, hw'⟩ := hw'
      have hwa : wantedA o ops x.s = (some bb == some w) := by
        unfold wantedA
        rw [hgn]
        simp only [yieldedA]
        rw [ht]
        dsimp only
        rw [h1]
        rcases hbb with hbb | ⟨hbb, rfl⟩
        · rw [hbb]
        · rw [hbb]; cases w <;> rfl
      by_cases hbw : bb = w
      · rw [if_pos hbw] at hw'
        exact wanted (by rw [hwa]; simp [hbw]) hw'
      · rw [if_neg hbw] at hw'
        exact unwanted (by rw [hwa]; simpa using hbw) hw'

theorem gW_mono {g : Option (Tmp × Bool)} {s : St} {x y x' y' : Prop} (h : gW g s x y) (hx : x → x') (hy : y → y') : gW g s x' y' := by
  cases g with
  | none => exact hx h
  | some g =>
    obtain ⟨b, hb, h⟩ := h
    refine ⟨b, hb, ?_⟩
    split at h
    · rename_i e; rw [if_pos e]; exact hx h
    · rename_i e; rw [if_neg e]; exact hy h

theorem WD_of_WE {r0 : Nat} : ∀ (l : List DOp), l.all lightD = true → ∀ (x : DX) (Q : St → Prop), WE P r0 l x.s x.A Q → WD P r0 l x Q
  | [], _, x, Q, h => h
  | o :: rest, hl, x, Q, h => by
    simp only [List.all_cons, Bool.and_eq_true] at hl
    simp only [WE, WD] at h ⊢
    refine gW_mono h ?_ (fun h => WD_of_WE rest hl.2 _ Q h)
    have h1 := hl.1
    unfold lightD at h1
    unfold weB wdB
    cases hk : o.k with
    | q => exact fun h => WO_mono P h fun e s h => by
            cases e <;> first | exact WD_of_WE rest hl.2 _ Q h | exact h
    | a i => exact fun ⟨r, hr, h⟩ => ⟨r, hr, WD_of_WE rest hl.2 _ Q h⟩
    | r i sees nb =>
      rw [hk] at h1
      have hn : nb = [] := by simpa using h1
      subst hn
      refine fun ⟨v, h1, h⟩ => ⟨v, h1, ?_, WD_of_WE rest hl.2 _ Q h⟩
      intro h hh
      have : x.hist.takeWhile (fun h => ([] : List Nat).contains h.1) = [] := by
        cases x.hist with
        | nil => rfl
        | cons a b => simp
      rw [this] at hh; cases hh
    | c i vis re =>
      rw [hk] at h1
      have hn : re = [] := by simpa using h1
      subst hn
      refine fun h => WO_mono P h fun e s h => ?_
      cases e with
      | normal => exact ⟨by simp, WD_of_WE rest hl.2 _ Q h⟩
      | _ => exact h

theorem WE_of_WL {r0 : Nat} : ∀ (l : List DOp), l.all lightI = true → ∀ (s : St) (Q : St → Prop), WL P (l.map toI) s (thenN Q (fun _ _ => False)) → WE P r0 l s [] Q
  | [], _, s, Q, h => h
  | o :: rest, hl, s, Q, h => by
    simp only [List.all_cons, Bool.and_eq_true] at hl
    have h1 := hl.1
    have step : WO P o.op o.d s (thenN (fun s => WL P (rest.map toI) s (thenN Q (fun _ _ => False))) (thenN Q (fun _ _ => False))) → weB P r0 (fun s A => WE P r0 rest s A Q) o s [] := by
      intro h
      unfold lightI at h1
      unfold weB
      cases hk : o.k with
      | q =>
        refine WO_mono P h fun e s h => ?_
        cases e <;> first | exact WE_of_WL rest hl.2 _ Q h | exact h
      | a i => rw [hk] at h1; cases h1
      | r i sees nb =>
        rw [hk] at h1
        simp only [Bool.and_eq_true, beq_iff_eq] at h1
        obtain ⟨e, s', hd, hq⟩ := h
        unfold doOp at hd
        obtain ⟨⟨v, H⟩, ho, hd⟩ := bind_some hd
        have ho' : opA P { dst := none, op := o.op, type := 0, pos := "", after := #[], guard := none } s.ev s.H = some (v, H) := ho
        obtain ⟨hH, u, rfl⟩ := read_same h1.2 ho'
        subst hH
        cases hd
        exact ⟨u, ⟨_, ho'⟩, WE_of_WL rest hl.2 _ Q hq⟩
      | c i vis re =>
        refine WO_mono P h fun e s h => ?_
        cases e <;> first | exact WE_of_WL rest hl.2 _ Q h | exact h
    simp only [WE]
    obtain ⟨gd, d, op, k⟩ := o
    cases gd with
    | none =>
      cases d with
      | none => exact step h
      | some d => exact step h
    | some g =>
      obtain ⟨b, hb, h⟩ := h
      refine ⟨b, hb, ?_⟩
      split at h
      · rename_i e; rw [if_pos e]; exact step h
      · rename_i e; rw [if_neg e]; exact WE_of_WL rest hl.2 _ Q h

theorem WD_of_cmpR {n : Nat} {l : List DOp} {s : St} {Q : Ex → St → Prop} (h : Wq P (cmpR n l) s Q) : WD P s.H.next l { s := setH s (bump s.H n), A := [], hist := [], rd := [] } (Q .normal) := by
  unfold cmpR at h
  split at h
  · rename_i hl
    refine WD_of_WE P l ?_ _ _ (WE_of_WL P l hl _ _ h)
    rw [List.all_eq_true] at hl ⊢
    intro o ho
    have := hl o ho
    unfold lightI at this
    unfold lightD
    cases hk : o.k <;> rw [hk] at this <;> simp_all
  · split at h
    · rename_i hl; exact WD_of_WE P l hl _ _ h
    · exact h

theorem Wq_sound : ∀ (c : Code) (s : St) (Q : Ex → St → Prop), Wq P (cmpC c) s Q → ∃ e s', execW P c s = some (e, s') ∧ Q e s' := by
  intro c
  induction c with
  | skip => intro s Q h; exact ⟨_, _, execW_skip s, h⟩
  | ret => intro s Q h; exact ⟨_, _, execW_ret s, h⟩
  | exit id => intro s Q h; exact ⟨_, _, execW_exit id s, h⟩
  | seq a b iha ihb =>
    intro s Q h
    obtain ⟨e, s', h1, h2⟩ := iha s _ h
    rw [execW_seq, h1]
    cases e with
    | normal => exact ihb s' Q h2
    | exit i => exact ⟨_, _, rfl, h2⟩
    | ret => exact ⟨_, _, rfl, h2⟩
    | panic v => exact ⟨_, _, rfl, h2⟩
  | cond c a b iha ihb =>
    intro s Q h
    obtain ⟨t, ht, h1⟩ := h
    rw [execW_cond, ht]
    cases t with
    | true => exact iha s Q (by simpa using h1)
    | false => exact ihb s Q (by simpa using h1)
  | block id b ih =>
    intro s Q h
    obtain ⟨e, s', h1, h2⟩ := ih s _ h
    rw [execW_block, h1]
    cases e with
    | exit i =>
      simp only [blk_exit] at h2
      by_cases hi : i = id
      · rw [if_pos hi] at h2; exact ⟨_, _, by simp [hi], h2⟩
      · rw [if_neg hi] at h2; exact ⟨_, _, by simp [hi], h2⟩
    | normal => exact ⟨_, _, rfl, h2⟩
    | ret => exact ⟨_, _, rfl, h2⟩
    | panic v => exact ⟨_, _, rfl, h2⟩
  | loop b ih =>
    intro s Q h
    refine h (fun s => ∃ e s', execW P (.loop b) s = some (e, s') ∧ Q e s') ?_
    intro s hs
    obtain ⟨e, s', h1, h2⟩ := ih s _ hs
    rw [execW_loop, h1]
    cases e with
    | normal => exact h2
    | exit i => exact ⟨_, _, rfl, h2⟩
    | ret => exact ⟨_, _, rfl, h2⟩
    | panic v => exact ⟨_, _, rfl, h2⟩
  | region id ops draw =>
    intro s Q h
    unfold cmpC at h
    split at h
    · rename_i hc
      simp only [Bool.and_eq_true, Bool.not_eq_true'] at hc
      split at h
      case isFalse => exact h.elim
      rename_i hok
      cases hl : cmpD ops (Region.before ops) 0 ops.toList with
      | none => rw [hl] at h; exact h.elim
      | some l =>
        rw [hl] at h
        have hcalm : calmD ops = false := by
          have := hc.2
          rw [hok] at this
          simpa using this
        have h := WD_of_cmpR P h
        obtain ⟨x', h1, h2⟩ := WD_sound P (r0 := s.H.next) (okD_spec hok).lt ops.toList 0 l (fun j o hj => by simpa using hj) hl
          { s := setH s (bump s.H (ops.size + 1)), A := [], hist := [], rd := [] }
          { s := { s with H := { s.H with next := s.H.next + ops.size + 1 } }, A := [], hist := [], cs := [], rd := [] } (Q .normal)
          ⟨rfl, rfl, rfl, rfl, by simp, by simp, rfl, by simp⟩ h
        refine ⟨.normal, _, ?_, h2⟩
        rw [hc.1, execW_draw]
        unfold regionD
        rw [if_pos hok]
        dsimp only
        rw [h1]
        simp only [Option.bind_eq_bind, Option.bind_some, hcalm, Bool.false_eq_true, if_false]
        rfl
    · rename_i hc
      cases hl : cmpL ops ops.toList with
      | none => rw [hl] at h; exact h.elim
      | some l =>
        rw [hl] at h
        obtain ⟨e, s', h1, h2⟩ := WL_run P ops.toList l hl s Q h
        refine ⟨e, s', ?_, h2⟩
        cases draw with
        | false => rw [execW_text]; exact h1
        | true =>
          rw [execW_draw]
          simp only [Bool.true_and, Bool.not_eq_true', Bool.not_eq_false, Bool.and_eq_true] at hc
          exact regionD_calm hc.1 hc.2 h1
  | _ => intro s Q h; exact h.elim

theorem WL_mono : ∀ (l : List IOp) {s : St} {K K' : Ex → St → Prop}, WL P l s K → (∀ e s, K e s → K' e s) → WL P l s K'
  | [], _, _, _, h, k => k _ _ h
  | .o d op :: rest, s, K, K', h, k => WO_mono P h fun e s h => by
    cases e with
    | normal => exact WL_mono rest h k
    | _ => exact k _ _ h
  | .n op :: rest, s, K, K', h, k => WO_mono P h fun e s h => by
    cases e with
    | normal => exact WL_mono rest h k
    | _ => exact k _ _ h
  | .g t w d op :: rest, s, K, K', h, k => by
    obtain ⟨b, hb, h⟩ := h
    refine ⟨b, hb, ?_⟩
    split at h
    · rename_i e
      rw [if_pos e]
      exact WO_mono P h fun e s h => by
        cases e with
        | normal => exact WL_mono rest h k
        | _ => exact k _ _ h
    · rename_i e
      rw [if_neg e]
      exact WL_mono rest h k

theorem WD_mono {r0 : Nat} : ∀ (l : List DOp) {x : DX} {Q Q' : St → Prop}, WD P r0 l x Q → (∀ s, Q s → Q' s) → WD P r0 l x Q'
  | [], x, Q, Q', h, k => k _ h
  | o :: rest, x, Q, Q', h, k => by
    simp only [WD] at h ⊢
    refine gW_mono h ?_ (fun h => WD_mono rest h k)
    unfold wdB
    cases o.k with
    | q => exact fun h => WO_mono P h fun e s h => by
            cases e <;> first | exact WD_mono rest h k | exact h
    | a i => exact fun ⟨r, hr, h⟩ => ⟨r, hr, WD_mono rest h k⟩
    | r i sees nb => exact fun ⟨v, h1, h2, h⟩ => ⟨v, h1, h2, WD_mono rest h k⟩
    | c i vis re => exact fun h => WO_mono P h fun e s h => by
                        cases e <;> first | exact ⟨h.1, WD_mono rest h.2 k⟩ | exact h

theorem WE_mono {r0 : Nat} : ∀ (l : List DOp) {s : St} {A : List (Nat × Blk)} {Q Q' : St → Prop}, WE P r0 l s A Q → (∀ s, Q s → Q' s) → WE P r0 l s A Q'
  | [], s, A, Q, Q', h, k => k _ h
  | o :: rest, s, A, Q, Q', h, k => by
    simp only [WE] at h ⊢
    refine gW_mono h ?_ (fun h => WE_mono rest h k)
    unfold weB
    cases o.k with
    | q => exact fun h => WO_mono P h fun e s h => by
            cases e <;> first | exact WE_mono rest h k | exact h
    | a i => exact fun ⟨r, hr, h⟩ => ⟨r, hr, WE_mono rest h k⟩
    | r i sees nb => exact fun ⟨v, h1, h⟩ => ⟨v, h1, WE_mono rest h k⟩
    | c i vis re => exact fun h => WO_mono P h fun e s h => by
                        cases e <;> first | exact WE_mono rest h k | exact h

theorem Wq_mono : ∀ (c : IC) {s : St} {K K' : Ex → St → Prop}, Wq P c s K → (∀ e s, K e s → K' e s) → Wq P c s K' := by
  intro c
  induction c with
  | skip => intro s K K' h k; exact k _ _ h
  | ret => intro s K K' h k; exact k _ _ h
  | bad => intro s K K' h k; exact h
  | exit id => intro s K K' h k; exact k _ _ h
  | reg l => intro s K K' h k; exact WL_mono P l h k
  | regb n l => intro s K K' h k; exact WL_mono P l h (fun e s h => by cases e <;> first | exact k _ _ h | exact h)
  | drl n l => intro s K K' h k; exact WE_mono P l h (fun s h => k _ _ h)
  | drw n l => intro s K K' h k; exact WD_mono P l h (fun s h => k _ _ h)
  | seq a b iha ihb =>
    intro s K K' h k
    refine iha h ?_
    intro e s h
    cases e with
    | normal => exact ihb h k
    | _ => exact k _ _ h
  | cond c a b iha ihb =>
    intro s K K' h k
    obtain ⟨t, ht, h⟩ := h
    refine ⟨t, ht, ?_⟩
    cases t with
    | true => exact iha h k
    | false => exact ihb h k
  | block id b ih =>
    intro s K K' h k
    refine ih h ?_
    intro e s h
    cases e with
    | exit i =>
      simp only [blk_exit] at h ⊢
      split at h
      · rename_i e; rw [if_pos e]; exact k _ _ h
      · rename_i e; rw [if_neg e]; exact k _ _ h
    | _ => exact k _ _ h
  | loop b ih =>
    intro s K K' h k R hR
    refine h R ?_
    intro s hs
    refine hR s (ih hs ?_)
    intro e s h
    cases e with
    | normal => exact h
    | _ => exact k _ _ h

/- a loop with an invariant and a measure -/
theorem Wq_loop {b : IC} {s : St} {Q : Ex → St → Prop} (I : Nat → St → Prop) (n : Nat) (h0 : I n s)
    (hs : ∀ n s, I n s → Wq P b s (thenN (fun s' => ∃ m, m < n ∧ I m s') Q)) : Wq P (.loop b) s Q := by
  intro R hR
  have : ∀ n s, I n s → R s := by
    intro n
    induction n using Nat.strongRecOn with
    | _ n ih =>
      intro s hI
      refine hR s (Wq_mono P b (hs n s hI) ?_)
      intro e s' h
      cases e with
      | normal => obtain ⟨m, hm, hI⟩ := h; exact ih m hm s' hI
      | _ => exact h
  exact this n s h0

/- a function, compact -/
structure IFn where
  nt : Nat
  body : IC
  res : List ResultVar

def ifn (f : FuncId) : Option IFn := (P.funcs[f]?).bind fun fn => fn.body.map fun c => { nt := fn.ntmps, body := cmpC c, res := fn.results.toList }

/- what a call is to come to -/
def CW (f : FuncId) (args : Array Value) (H : Heap) (Q : CR → Heap → Prop) : Prop := ∃ r H', callW P f args H = some (r, H') ∧ Q r H'

theorem CW_mono {f : FuncId} {args : Array Value} {H : Heap} {Q Q' : CR → Heap → Prop} (h : CW P f args H Q) (k : ∀ r H, Q r H → Q' r H) : CW P f args H Q' := by
  obtain ⟨r, H', h1, h2⟩ := h
  exact ⟨r, H', h1, k _ _ h2⟩

def resW (res : List ResultVar) (s : St) : Option Value := (res.mapM (resultA P s)).bind fun l => match l with | [v] => some v | vs => some (.tuple vs.toArray)

/- behind the body of a function that defers nothing -/
def retW (res : List ResultVar) (Q : CR → Heap → Prop) : Ex → St → Prop
  | .normal, s => s.d = [] ∧ ∃ v, resW P res s = some v ∧ Q (.ret v) s.H
  | .ret, s => s.d = [] ∧ ∃ v, resW P res s = some v ∧ Q (.ret v) s.H
  | .panic v, s => s.d = [] ∧ Q (.pan v) s.H
  | .exit _, _ => False

def entW (nt : Nat) (args : Array Value) (H : Heap) : St := { n := Nat.max nt args.size, f := ofArgs 0 args.toList, d := [], H := H }

theorem CW_of {f : FuncId} {F : IFn} (hf : ifn P f = some F) {args : Array Value} {H : Heap} {Q : CR → Heap → Prop}
    (h : Wq P F.body (entW F.nt args H) (retW P F.res Q)) : CW P f args H Q := by
  unfold ifn at hf
  obtain ⟨fn, hfn, h1⟩ := bind_some (x := P.funcs[f]?) hf
  obtain ⟨c, hc, h2⟩ := map_some h1
  subst h2
  obtain ⟨e, s', h3, h4⟩ := Wq_sound P c _ _ h
  unfold CW
  rw [callW_eq]
  unfold callA
  simp only [hfn, hc, Option.bind_eq_bind, Option.bind_some]
  have he : execW P c (enterA fn args H) = some (e, s') := h3
  rw [he]
  have hres : ∀ v, resW P fn.results.toList s' = some v → resultsA P fn { s' with H := s'.H } = some v := by
    intro v hv
    unfold resultsA
    unfold resW at hv
    obtain ⟨l, hl, hv⟩ := bind_some hv
    have hl' : List.mapM (resultA P { s' with H := s'.H }) fn.results.toList = some l := hl
    rw [hl']
    exact hv
  cases e with
  | normal =>
    obtain ⟨hd, v, hv, hq⟩ := h4
    refine ⟨.ret v, s'.H, ?_, hq⟩
    dsimp only [Option.bind_some]
    rw [hd]
    unfold unwindA
    rw [hres v hv]; rfl
  | ret =>
    obtain ⟨hd, v, hv, hq⟩ := h4
    refine ⟨.ret v, s'.H, ?_, hq⟩
    dsimp only [Option.bind_some]
    rw [hd]
    unfold unwindA
    rw [hres v hv]; rfl
  | panic v =>
    obtain ⟨hd, hq⟩ := h4
    refine ⟨.pan v, s'.H, ?_, hq⟩
    dsimp only [Option.bind_some]
    rw [hd]
    simp [unwindA]
  | exit i => exact h4.elim

end
end Go.Am
