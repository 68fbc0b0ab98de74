/- A run of the scheduler in memory: what lies where, what is kept by each change. Conditions: those of each theorem. -/
import Derived.Test.YthanhcpnhionaaaSdA
set_option linter.all false
set_option linter.unusedSimpArgs false
set_option linter.unusedVariables false
namespace Go.Am.T
open Go Go.Am Go.Proofs.Ythanhcpnhionaaa Go.Proofs

/- a task, a run -/
structure Tk where
  acts : List Act
  at_ : Nat
  guard : Int
  wait : Int
  died : Bool
  n : Int
structure Sx where
  N : Nat
  tk : Nat → Tk
  room : Int
  locks : Nat → Int
  conds : Nat → List Nat
  queues : Nat → List Int
  regs : Nat → Int
  last : Int
  trace : List (Nat × Nat)

inductive Role where
  | run | arr | task (i : Nat) | cond (j : Nat) | queue (j : Nat) | trace
  deriving DecidableEq

/- where what lies -/
structure Mem where
  own : Nat → Option Role
  ta : Nat → Nat
  av : Nat → Value
  tv : Value
  cv : Nat → Value
  qv : Nat → Value
  trv : Value

def iv (z : Int) : Value := .int .i64 z
def nv (z : Nat) : Value := .int .i64 z
def trC : List (Nat × Nat) → List Value
  | [] => []
  | p :: l => nv p.1 :: nv p.2 :: trC l
theorem trC_app (l m : List (Nat × Nat)) : trC (l ++ m) = trC l ++ trC m := by
  induction l with
  | nil => rfl
  | cons p l ih => simp [trC, ih]
theorem trC_len (l : List (Nat × Nat)) : (trC l).length = l.length * 2 := by
  induction l with
  | nil => rfl
  | cons p l ih => simp [trC, ih]; omega

def rv (M : Mem) (S : Sx) : RunV := { tasks := M.tv, room := S.room, locks := S.locks, conds := M.cv, queues := M.qv, regs := S.regs, last := S.last, trace := M.trv }
def tkV (v : Value) (t : Tk) : TaskV := { acts := v, at_ := t.at_, guard := t.guard, wait := t.wait, died := t.died, n := t.n }

section
variable {M : Mem} {S : Sx} {v : Value} {t : Tk} {i : Nat} {z : Int} {w : Value}
@[go_sem] theorem rv_tasks : (rv M S).tasks = M.tv := rfl
@[go_sem] theorem rv_room : (rv M S).room = S.room := rfl
@[go_sem] theorem rv_locks : (rv M S).locks = S.locks := rfl
@[go_sem] theorem rv_conds : (rv M S).conds = M.cv := rfl
@[go_sem] theorem rv_queues : (rv M S).queues = M.qv := rfl
@[go_sem] theorem rv_regs : (rv M S).regs = S.regs := rfl
@[go_sem] theorem rv_last : (rv M S).last = S.last := rfl
@[go_sem] theorem rv_trace : (rv M S).trace = M.trv := rfl
@[go_sem high] theorem rw_last : ({ runB (rv M S) with cells := (runCells (rv M S)).set 22 (.int .i64 z) } : Blk) = runB (rv M { S with last := z }) := rfl
@[go_sem high] theorem rw_trace : ({ runB (rv M S) with cells := (runCells (rv M S)).set 23 w } : Blk) = runB (rv { M with trv := w } S) := rfl
@[go_sem high] theorem rw_lock (h : i < 4) : ({ runB (rv M S) with cells := (runCells (rv M S)).set (2 + i) (.int .i64 z) } : Blk) = runB (rv M { S with locks := upd S.locks i z }) := w_lock h
@[go_sem high] theorem rw_cond (h : i < 4) : ({ runB (rv M S) with cells := (runCells (rv M S)).set (6 + i) w } : Blk) = runB (rv { M with cv := upd M.cv i w } S) := w_cond h
@[go_sem high] theorem rw_queue (h : i < 4) : ({ runB (rv M S) with cells := (runCells (rv M S)).set (10 + i) w } : Blk) = runB (rv { M with qv := upd M.qv i w } S) := w_queue h
@[go_sem high] theorem rw_reg (h : i < 8) : ({ runB (rv M S) with cells := (runCells (rv M S)).set (14 + i) (.int .i64 z) } : Blk) = runB (rv M { S with regs := upd S.regs i z }) := w_reg h
@[go_sem high] theorem rw_reg7 : ({ runB (rv M S) with cells := (runCells (rv M S)).set 21 (.int .i64 z) } : Blk) = runB (rv M { S with regs := upd S.regs 7 z }) := rfl
@[go_sem] theorem rv_foldL {f : Nat → Int} : RunV.mk M.tv S.room f M.cv M.qv S.regs S.last M.trv = rv M { S with locks := f } := rfl
@[go_sem] theorem tk_acts : (tkV v t).acts = v := rfl
@[go_sem] theorem tk_at : (tkV v t).at_ = t.at_ := rfl
@[go_sem] theorem tk_guard : (tkV v t).guard = t.guard := rfl
@[go_sem] theorem tk_wait : (tkV v t).wait = t.wait := rfl
@[go_sem] theorem tk_died : (tkV v t).died = t.died := rfl
@[go_sem] theorem tk_n : (tkV v t).n = t.n := rfl
@[go_sem high] theorem tw_at {k : Nat} : ({ taskB (tkV v t) with cells := (taskCells (tkV v t)).set 1 (.int .i64 (k : Int)) } : Blk) = taskB (tkV v { t with at_ := k }) := rfl
@[go_sem high] theorem tw_guard : ({ taskB (tkV v t) with cells := (taskCells (tkV v t)).set 2 (.int .i64 z) } : Blk) = taskB (tkV v { t with guard := z }) := rfl
@[go_sem high] theorem tw_wait : ({ taskB (tkV v t) with cells := (taskCells (tkV v t)).set 3 (.int .i64 z) } : Blk) = taskB (tkV v { t with wait := z }) := rfl
end

/- a list of its own: nil, or the end of an open block -/
def OwnL (p : Nat → Prop) (H : Heap) (es ty : Nat) (v : Value) (n : Nat) (cs : List Value) : Prop :=
  (v = .slice none 0 0 ∧ n = 0 ∧ cs = []) ∨ ∃ b o pre, v = .slice (some ⟨b, o, none⟩) n openCap ∧ base0 ≤ b ∧ p b ∧ H.get b = some ⟨ty, es, true, pre ++ cs⟩ ∧ pre.length = o ∧ cs.length = n * es
theorem OwnL.frame {p p' : Nat → Prop} {H H' : Heap} {es ty : Nat} {v : Value} {n : Nat} {cs : List Value} (h : OwnL p H es ty v n cs)
    (k : ∀ b x, p b → H.get b = some x → p' b ∧ H'.get b = some x) : OwnL p' H' es ty v n cs := by
  rcases h with h | ⟨b, o, pre, h1, h2, h3, h4, h5, h6⟩
  · exact .inl h
  · exact .inr ⟨b, o, pre, h1, h2, (k b _ h3 h4).1, (k b _ h3 h4).2, h5, h6⟩
theorem OwnL.frameO {p p' : Nat → Prop} {H H' : Heap} {es ty : Nat} {v : Value} {n : Nat} {cs : List Value} (h : OwnL p H es ty v n cs)
    (k : ∀ b x, p b → H.get b = some x → x.opn = true ∧ x.ty = ty → p' b ∧ H'.get b = some x) : OwnL p' H' es ty v n cs := by
  rcases h with h | ⟨b, o, pre, h1, h2, h3, h4, h5, h6⟩
  · exact .inl h
  · exact .inr ⟨b, o, pre, h1, h2, (k b _ h3 h4 ⟨rfl, rfl⟩).1, (k b _ h3 h4 ⟨rfl, rfl⟩).2, h5, h6⟩
theorem OwnL.sl {p : Nat → Prop} {H : Heap} {es ty : Nat} {v : Value} {n : Nat} {cs : List Value} (h : OwnL p H es ty v n cs) : ∃ a c, v = .slice a n c := by
  rcases h with ⟨rfl, rfl, _⟩ | ⟨b, o, pre, rfl, _⟩
  · exact ⟨_, _, rfl⟩
  · exact ⟨_, _, rfl⟩
theorem OwnL.len {p : Nat → Prop} {H : Heap} {es ty : Nat} {v : Value} {n : Nat} {cs : List Value} (h : OwnL p H es ty v n cs) : cs.length = n * es := by
  rcases h with ⟨_, rfl, rfl⟩ | ⟨b, o, pre, _, _, _, _, _, h⟩
  · simp
  · exact h

def delV (H : Heap) : Value → Heap
  | .slice (some a) _ _ => H.del a.block
  | _ => H
theorem next_delV {H : Heap} {v : Value} : (delV H v).next = H.next := by unfold delV; split <;> simp [next_del]

/- what a slice of elements of one cell reads as -/
def RdI (H : Heap) (v : Value) (l : List Value) : Prop := ∃ a c, v = .slice a l.length c ∧ (l ≠ [] → c ≠ 0 ∧ ∃ b o x, a = some ⟨b, o, none⟩ ∧ H.get b = some x ∧ ∀ i (h : i < l.length), x.cells[o + i]? = some l[i])
theorem RdI.at_ {H : Heap} {v : Value} {l : List Value} (h : RdI H v l) {i : Nat} (hi : i < l.length) : ∃ b o c x, v = .slice (some ⟨b, o, none⟩) l.length c ∧ c ≠ 0 ∧ H.get b = some x ∧ x.cells[o + i]? = some l[i] := by
  obtain ⟨a, c, e, k⟩ := h
  obtain ⟨hc, b, o, x, rfl, hx, k⟩ := k (by intro e; subst e; cases hi)
  exact ⟨b, o, c, x, e, hc, hx, k i hi⟩
theorem RdI.of {H H' : Heap} {v : Value} {l : List Value} (h : RdI H v l) (k : ∀ b x, H.get b = some x → H'.get b = some x) : RdI H' v l := by
  obtain ⟨a, c, e, q⟩ := h
  refine ⟨a, c, e, fun hl => ?_⟩
  obtain ⟨hc, b, o, x, ha, hx, q⟩ := q hl
  exact ⟨hc, b, o, x, ha, k b x hx, q⟩
theorem OwnL.rd {p : Nat → Prop} {H : Heap} {ty : Nat} {v : Value} {n : Nat} {cs : List Value} (h : OwnL p H 1 ty v n cs) : RdI H v cs := by
  rcases h with ⟨rfl, rfl, rfl⟩ | ⟨b, o, pre, rfl, h2, h3, h4, h5, h6⟩
  · exact ⟨none, 0, rfl, fun h => absurd rfl h⟩
  · refine ⟨some ⟨b, o, none⟩, openCap, by simp at h6; rw [h6], fun _ => ⟨by unfold openCap; omega, b, o, _, rfl, h4, ?_⟩⟩
    intro i hi
    subst h5
    simp [hi]

theorem appS_own {p : Nat → Prop} {H : Heap} {es ty bytes : Nat} {v : Value} {n : Nat} {cs vs : List Value} {nb : Nat} {x : Blk} {a : Option Addr} {c : Nat} (h : OwnL p H es ty v n cs) (hv : v = .slice a n c) (hn : H.get nb = some x) (hx : x.cells = vs) (hl : vs.length = es) (h0 : es ≠ 0)
    (ho : vs.all Heap.oneC = true) (hb : 4 * (n + 1) * bytes + 4096 ≤ 2 ^ 47) (hb2 : n + 1 ≤ 2 ^ 47) :
    appS H ty es bytes a n c (.slice (some ⟨nb, 0, none⟩) 1 1) = some (.slice (some ⟨H.next, 0, none⟩) (n + 1) openCap, (delV H v).alloc ⟨ty, es, true, cs ++ vs⟩) := by
  subst hx hv
  have hf : firstA H es 1 (.slice (some ⟨nb, 0, none⟩) 1 1) = some x.cells := by
    unfold firstA
    simp only [Nat.reduceEqDiff, if_false, Nat.one_mul, loads_eq, hn, Option.bind_some]
    rw [if_pos (by omega)]
    simp [← hl]
  rcases h with ⟨h1, h2, h3⟩ | ⟨b, o, pre, h1, h2, h3, h4, h5, h6⟩
  · cases h1; subst h3
    unfold appS
    simp only [lengthA, Option.bind_eq_bind, Option.bind_some, hf]
    have e1 : ¬ (4 * (0 + 1) * bytes + 4096 > 2 ^ 47 || (0 + 1 > 2 ^ 47)) = true := by simp; simp at hb; omega
    rw [if_pos (show 0 ≠ openCap by unfold openCap; omega), if_neg (by omega), if_neg e1]
    simp [firstA, delV, next_delV]
  · cases h1
    unfold appS
    simp only [lengthA, Option.bind_eq_bind, Option.bind_some, hf]
    rw [if_neg (by simp)]
    have e1 : ¬ (4 * (n + 1) * bytes + 4096 > 2 ^ 47 || (n + 1 > 2 ^ 47)) = true := by simp; omega
    have e2 : o + (n + 1) * es ≤ (pre ++ cs).length ↔ False := by
      simp only [List.length_append, h5, h6, Nat.add_mul, iff_false]; omega
    have e3 : ¬ ((o + n * es ≠ (pre ++ cs).length || !x.cells.all Heap.oneC) = true) := by
      simp [h5, h6, ho]
    have e4 : ¬ (b < base0) := by omega
    simp only [Option.isSome_none, Bool.false_or, h4, Option.bind_some, ne_eq, not_true_eq_false, decide_false, Bool.not_true, Bool.false_eq_true, if_false, Nat.reduceEqDiff, e2, e4]
    simp only [ne_eq] at e3
    rw [if_neg e3, if_neg e1]
    simp [delV, ← h5]

theorem OwnL.appended {p p' : Nat → Prop} {H : Heap} {es ty : Nat} {v : Value} {n : Nat} {cs vs : List Value} (h : OwnL p H es ty v n cs) (hw : WF H) (hp : p' H.next) (hl : vs.length = es) :
    OwnL p' ((delV H v).alloc ⟨ty, es, true, cs ++ vs⟩) es ty (.slice (some ⟨H.next, 0, none⟩) (n + 1) openCap) (n + 1) (cs ++ vs) := by
  refine .inr ⟨H.next, 0, [], rfl, hw.1, hp, ?_, rfl, ?_⟩
  · rw [get_alloc_at (by rw [next_delV]; exact hw.1) (by rw [next_delV])]; rfl
  · simp [h.len, hl, Nat.add_mul]
theorem Ext.app {H0 H : Heap} (hE : Ext H0 H) {es ty : Nat} {v : Value} {n : Nat} {cs : List Value} (h : OwnL (fun b => H0.next ≤ b) H es ty v n cs) (x : Blk) : Ext H0 ((delV H v).alloc x) := by
  refine Ext.alloc ?_ _
  rcases h with ⟨rfl, _⟩ | ⟨b', o', pre, rfl, _, hb', _⟩
  · exact hE
  · exact hE.del hb'

/- an append to a list of one's own -/
theorem appO {H0 H : Heap} (hE : Ext H0 H) {es ty bytes n c : Nat} {a : Option Addr} {cs vs : List Value} (h : OwnL (fun b => H0.next ≤ b) H es ty (.slice a n c) n cs) {nb : Nat} {x : Blk} (hn : H.get nb = some x) (hx : x.cells = vs) (hl : vs.length = es) (h0 : es ≠ 0)
    (ho : vs.all Heap.oneC = true) (hb : 4 * (n + 1) * bytes + 4096 ≤ 2 ^ 47) (hb2 : n + 1 ≤ 2 ^ 47) :
    ∃ H6, appS H ty es bytes a n c (.slice (some ⟨nb, 0, none⟩) 1 1) = some (.slice (some ⟨H.next, 0, none⟩) (n + 1) openCap, H6) ∧ Ext H0 H6 ∧
      OwnL (fun b => H0.next ≤ b) H6 es ty (.slice (some ⟨H.next, 0, none⟩) (n + 1) openCap) (n + 1) (cs ++ vs) ∧ H6.next = H.next + 1 ∧
      ∀ b x, H.get b = some x → x.opn = false ∨ x.ty ≠ ty → H6.get b = some x := by
  refine ⟨_, appS_own h rfl hn hx hl h0 ho hb hb2, Ext.app hE h _, h.appended hE.wf hE.le hl, ?_, ?_⟩
  · show (delV H _).next + 1 = _
    rw [next_delV]
  · intro b y hb hy
    have hlt := hE.wf.lt hb
    rw [get_alloc_ne (by rw [next_delV]; omega)]
    rcases h with ⟨e, _⟩ | ⟨b', o, pre, e, _, _, h4, _⟩
    · simp only [Value.slice.injEq] at e
      obtain ⟨rfl, _⟩ := e
      exact hb
    · simp only [Value.slice.injEq] at e
      obtain ⟨rfl, _⟩ := e
      show (H.del b').get b = _
      rw [get_del_ne]
      · exact hb
      · intro e2; subst e2; rw [h4] at hb; cases hb
        rcases hy with hy | hy
        · cases hy
        · exact hy rfl

/- what lies in memory; 'ex': but for the lists of that role -/
structure RepX (ex : Option Role) (H : Heap) (r : Nat) (M : Mem) (S : Sx) : Prop where
  wf : WF H
  run : H.get r = some (runB (rv M S))
  ro : M.own r = some .run
  rb : base0 ≤ r
  lt : ∀ b, M.own b ≠ none → b < H.next
  arr : ∃ a c, M.tv = .slice a S.N c ∧ (S.N ≠ 0 → c ≠ 0 ∧ ∃ b o x, a = some ⟨b, o, none⟩ ∧ M.own b = some .arr ∧ H.get b = some x ∧ ∀ i, i < S.N → x.cells[o + i]? = some (.pointer (some ⟨M.ta i, 0, none⟩)))
  task : ∀ i, i < S.N → H.get (M.ta i) = some (taskB (tkV (M.av i) (S.tk i)))
  tko : ∀ i, i < S.N → M.own (M.ta i) = some (.task i)
  tkb : ∀ i, i < S.N → base0 ≤ M.ta i
  acts : ∀ i, i < S.N → ∃ a c, M.av i = .slice a (S.tk i).acts.length c ∧ ((S.tk i).acts ≠ [] → c ≠ 0 ∧ ∃ b o x, a = some ⟨b, o, none⟩ ∧ H.get b = some x ∧ M.own b = none ∧
    ∀ j (h : j < (S.tk i).acts.length), o + j * 4 + 4 ≤ x.cells.length ∧ (x.cells.drop (o + j * 4)).take 4 = ((S.tk i).acts[j]).cells)
  cond : ∀ j, j < 4 → ex ≠ some (.cond j) → OwnL (fun b => M.own b = some (.cond j)) H 1 3 (M.cv j) (S.conds j).length ((S.conds j).map nv)
  queue : ∀ j, j < 4 → ex ≠ some (.queue j) → OwnL (fun b => M.own b = some (.queue j)) H 1 2 (M.qv j) (S.queues j).length ((S.queues j).map iv)
  trace : ex ≠ some .trace → OwnL (fun b => M.own b = some .trace) H 2 39 M.trv S.trace.length (trC S.trace)
abbrev Rep := RepX none

theorem RepX.actsAt {ex : Option Role} {H : Heap} {r : Nat} {M : Mem} {S : Sx} (h : RepX ex H r M S) {i : Nat} (hi : i < S.N) : ActsAt H (M.av i) (S.tk i).acts := by
  obtain ⟨a, c, e, k⟩ := h.acts i hi
  refine ⟨a, c, e, fun hl => ?_⟩
  obtain ⟨hc, b, o, x, h1, h2, _, h4⟩ := k hl
  exact ⟨hc, b, o, x, h1, h2, h4⟩

theorem RepX.ptr {ex : Option Role} {H : Heap} {r : Nat} {M : Mem} {S : Sx} (h : RepX ex H r M S) {i : Nat} (hi : i < S.N) : ∃ b o c x, M.tv = .slice (some ⟨b, o, none⟩) S.N c ∧ c ≠ 0 ∧ H.get b = some x ∧ x.cells[o + i]? = some (.pointer (some ⟨M.ta i, 0, none⟩)) := by
  obtain ⟨a, c, e, k⟩ := h.arr
  obtain ⟨hc, b, o, x, rfl, _, hx, q⟩ := k (by omega)
  exact ⟨b, o, c, x, e, hc, hx, q i hi⟩

/- blocks of M's keep what they hold -/
theorem RepX.of {ex : Option Role} {H H' : Heap} {r : Nat} {M M' : Mem} {S S' : Sx} (h : RepX ex H r M S) (ex' : Option Role)
    (wf : WF H') (run : H'.get r = some (runB (rv M' S'))) (ho : ∀ b x, H.get b = some x → M'.own b = M.own b) (lt : ∀ b, M'.own b ≠ none → b < H'.next)
    (eta : M'.ta = M.ta) (eav : M'.av = M.av) (etv : M'.tv = M.tv) (eN : S'.N = S.N)
    (hact : ∀ i, i < S.N → (S'.tk i).acts = (S.tk i).acts)
    (task : ∀ i, i < S.N → H'.get (M.ta i) = some (taskB (tkV (M.av i) (S'.tk i))))
    (keep : ∀ b x, H.get b = some x → M.own b = none ∨ M.own b = some .arr → H'.get b = some x)
    (cond : ∀ j, j < 4 → ex' ≠ some (.cond j) → OwnL (fun b => M'.own b = some (.cond j)) H' 1 3 (M'.cv j) (S'.conds j).length ((S'.conds j).map nv))
    (queue : ∀ j, j < 4 → ex' ≠ some (.queue j) → OwnL (fun b => M'.own b = some (.queue j)) H' 1 2 (M'.qv j) (S'.queues j).length ((S'.queues j).map iv))
    (trace : ex' ≠ some .trace → OwnL (fun b => M'.own b = some .trace) H' 2 39 M'.trv S'.trace.length (trC S'.trace)) : RepX ex' H' r M' S' where
  wf := wf
  run := run
  ro := (ho r _ h.run).trans h.ro
  rb := h.rb
  lt := lt
  arr := by
    obtain ⟨a, c, e, k⟩ := h.arr
    refine ⟨a, c, by rw [etv, eN]; exact e, ?_⟩
    rw [eN, eta]
    intro hN
    obtain ⟨hc, b, o, x, ha, hb, hx, q⟩ := k hN
    exact ⟨hc, b, o, x, ha, (ho b x hx).trans hb, keep b x hx (.inr hb), q⟩
  task := by rw [eN, eta, eav]; exact task
  tko := by rw [eN, eta]; intro i hi; exact (ho _ _ (h.task i hi)).trans (h.tko i hi)
  tkb := by rw [eN, eta]; exact h.tkb
  acts := by
    rw [eN, eav]
    intro i hi
    rw [hact i hi]
    obtain ⟨a, c, e, k⟩ := h.acts i hi
    refine ⟨a, c, e, fun hl => ?_⟩
    obtain ⟨hc, b, o, x, h1, h2, h3, h4⟩ := k hl
    exact ⟨hc, b, o, x, h1, keep b x h2 (.inl h3), (ho b x h2).trans h3, h4⟩
  cond := cond
  queue := queue
  trace := trace

theorem RepX.ext {ex : Option Role} {H H' : Heap} {r : Nat} {M : Mem} {S : Sx} (h : RepX ex H r M S) (e : Ext H H') : RepX ex H' r M S :=
  h.of ex e.wf (e.of h.wf h.run) (fun _ _ _ => rfl) (fun b hb => Nat.lt_of_lt_of_le (h.lt b hb) e.le) rfl rfl rfl rfl (fun _ _ => rfl) (fun i hi => e.of h.wf (h.task i hi)) (fun b x hb _ => e.of h.wf hb)
    (fun j hj hx => (h.cond j hj hx).frame fun b x hb hg => ⟨hb, e.of h.wf hg⟩) (fun j hj hx => (h.queue j hj hx).frame fun b x hb hg => ⟨hb, e.of h.wf hg⟩)
    (fun hx => (h.trace hx).frame fun b x hb hg => ⟨hb, e.of h.wf hg⟩)

/- the run's block is written: locks, registers, lists that hold already -/
theorem RepX.setRun {ex : Option Role} {H : Heap} {r : Nat} {M M' : Mem} {S S' : Sx} (h : RepX ex H r M S)
    (eo : M'.own = M.own) (eta : M'.ta = M.ta) (eav : M'.av = M.av) (etv : M'.tv = M.tv) (eN : S'.N = S.N) (etk : S'.tk = S.tk)
    (cond : ∀ j, j < 4 → OwnL (fun b => M.own b = some (.cond j)) H 1 3 (M'.cv j) (S'.conds j).length ((S'.conds j).map nv))
    (queue : ∀ j, j < 4 → OwnL (fun b => M.own b = some (.queue j)) H 1 2 (M'.qv j) (S'.queues j).length ((S'.queues j).map iv))
    (trace : OwnL (fun b => M.own b = some .trace) H 2 39 M'.trv S'.trace.length (trC S'.trace)) : Rep (H.set r (runB (rv M' S'))) r M' S' := by
  have hne : ∀ b ro, M.own b = some ro → ro ≠ .run → (H.set r (runB (rv M' S'))).get b = H.get b := by
    intro b ro hb hr
    refine get_set_ne ?_
    intro e; subst e; rw [h.ro] at hb; cases hb; exact hr rfl
  refine h.of none (h.wf.set (h.lt r (by rw [h.ro]; simp)) _) (get_set_eq h.rb) (fun b x _ => by rw [eo]) (fun b hb => by rw [next_set]; exact h.lt b (by rw [← eo]; exact hb)) eta eav etv eN (fun i hi => by rw [etk]) ?_ ?_ ?_ ?_ ?_
  · intro i hi
    rw [hne _ _ (h.tko i hi) (by simp), etk]; exact h.task i hi
  · intro b x hb hx
    rw [get_set_ne]; exact hb
    intro e; subst e; rw [h.ro] at hx; rcases hx with hx | hx <;> cases hx
  · intro j hj _
    rw [eo]
    exact (cond j hj).frame fun b x hb hg => ⟨hb, (hne b _ hb (by simp)).trans hg⟩
  · intro j hj _
    rw [eo]
    exact (queue j hj).frame fun b x hb hg => ⟨hb, (hne b _ hb (by simp)).trans hg⟩
  · intro _
    rw [eo]
    exact trace.frame fun b x hb hg => ⟨hb, (hne b _ hb (by simp)).trans hg⟩

/- a task's block is written -/
theorem RepX.setTask {ex : Option Role} {H : Heap} {r : Nat} {M : Mem} {S : Sx} (h : RepX ex H r M S) {i : Nat} (hi : i < S.N) {t : Tk} (ht : t.acts = (S.tk i).acts) :
    RepX ex (H.set (M.ta i) (taskB (tkV (M.av i) t))) r M { S with tk := upd S.tk i t } := by
  have hne : ∀ b ro, M.own b = some ro → ro ≠ .task i → (H.set (M.ta i) (taskB (tkV (M.av i) t))).get b = H.get b := by
    intro b ro hb hr
    refine get_set_ne ?_
    intro e; subst e; rw [h.tko i hi] at hb; cases hb; exact hr rfl
  refine h.of ex (h.wf.set (h.lt _ (by rw [h.tko i hi]; simp)) _) ?_ (fun _ _ _ => rfl) (fun b hb => by rw [next_set]; exact h.lt b hb) rfl rfl rfl rfl ?_ ?_ ?_ ?_ ?_ ?_
  · rw [hne r _ h.ro (by simp)]; exact h.run
  · intro j hj
    show (upd S.tk i t j).acts = _
    by_cases e : j = i
    · subst e; rw [upd_same]; exact ht
    · rw [upd_ne e]
  · intro j hj
    show _ = some (taskB (tkV (M.av j) (upd S.tk i t j)))
    by_cases e : j = i
    · subst e; rw [upd_same, get_set_eq (h.tkb j hj)]
    · rw [upd_ne e, hne _ _ (h.tko j hj) (by simpa using e)]; exact h.task j hj
  · intro b x hb hx
    rw [get_set_ne]; exact hb
    intro e; subst e; rw [h.tko i hi] at hx; rcases hx with hx | hx <;> cases hx
  · intro j hj hx
    exact (h.cond j hj hx).frame fun b x hb hg => ⟨hb, (hne b _ hb (by simp)).trans hg⟩
  · intro j hj hx
    exact (h.queue j hj hx).frame fun b x hb hg => ⟨hb, (hne b _ hb (by simp)).trans hg⟩
  · intro hx
    exact (h.trace hx).frame fun b x hb hg => ⟨hb, (hne b _ hb (by simp)).trans hg⟩

/- a list of a role is appended to: its old block is dead -/
theorem RepX.app {H : Heap} {r : Nat} {M : Mem} {S : Sx} (h : Rep H r M S) (ro : Role) (hro : ro ≠ .run) (hro2 : ro ≠ .arr) (hro3 : ∀ i, ro ≠ .task i) {v : Value} {es ty n : Nat} {cs : List Value} (hv : OwnL (fun b => M.own b = some ro) H es ty v n cs) (x : Blk) :
    RepX (some ro) ((delV H v).alloc x) r { M with own := upd M.own H.next (some ro) } S := by
  have hwd : WF (delV H v) := by
    rcases hv with ⟨rfl, _⟩ | ⟨b, o, pre, rfl, _⟩
    · exact h.wf
    · exact h.wf.del _
  have hnx : (delV H v).next = H.next := next_delV
  have hke : ∀ b y, H.get b = some y → M.own b ≠ some ro → ((delV H v).alloc x).get b = some y := by
    intro b y hb hm
    have := h.wf.lt hb
    rw [get_alloc_ne (by omega)]
    rcases hv with ⟨rfl, _⟩ | ⟨b', o, pre, rfl, _, h3, _⟩
    · exact hb
    · show (H.del b').get b = _
      rw [get_del_ne]; exact hb
      intro e; subst e; exact hm h3
  have hou : ∀ b y, H.get b = some y → upd M.own H.next (some ro) b = M.own b := by
    intro b y hb
    have := h.wf.lt hb
    exact upd_ne (by omega)
  refine h.of (some ro) (hwd.alloc x) ?_ hou ?_ rfl rfl rfl rfl (fun _ _ => rfl) ?_ ?_ ?_ ?_ ?_
  · exact hke r _ h.run (by rw [h.ro]; simp; exact fun e => hro e.symm)
  · intro b hb
    show b < (delV H v).next + 1
    rw [hnx]
    by_cases e : b = H.next
    · omega
    · have hb' : upd M.own H.next (some ro) b ≠ none := hb
      rw [upd_ne e] at hb'
      have := h.lt b hb'; omega
  · intro i hi
    exact hke _ _ (h.task i hi) (by rw [h.tko i hi]; simp; exact fun e => hro3 i e.symm)
  · intro b y hb hm
    refine hke b y hb ?_
    rcases hm with hm | hm
    · rw [hm]; simp
    · rw [hm]; simp; exact fun e => hro2 e.symm
  · intro j hj hx
    refine (h.cond j hj (by simp)).frame fun b y hb hg => ⟨(hou b y hg).trans hb, hke b y hg ?_⟩
    rw [hb]; intro e; exact hx e.symm
  · intro j hj hx
    refine (h.queue j hj (by simp)).frame fun b y hb hg => ⟨(hou b y hg).trans hb, hke b y hg ?_⟩
    rw [hb]; intro e; exact hx e.symm
  · intro hx
    refine (h.trace (by simp)).frame fun b y hb hg => ⟨(hou b y hg).trans hb, hke b y hg ?_⟩
    rw [hb]; intro e; exact hx e.symm

/- what lies outside is as it was -/
structure Frm (H : Heap) (M : Mem) (H' : Heap) (M' : Mem) : Prop where
  le : H.next ≤ H'.next
  own : ∀ b, b < H.next → M'.own b = M.own b
  get : ∀ b, b < H.next → M.own b = none → H'.get b = H.get b
  ta : M'.ta = M.ta
  av : M'.av = M.av
theorem Frm.refl {H : Heap} {M : Mem} : Frm H M H M := ⟨Nat.le_refl _, fun _ _ => rfl, fun _ _ _ => rfl, rfl, rfl⟩
theorem Frm.trans {H H1 H2 : Heap} {M M1 M2 : Mem} (h : Frm H M H1 M1) (k : Frm H1 M1 H2 M2) : Frm H M H2 M2 :=
  ⟨Nat.le_trans h.le k.le, fun b hb => (k.own b (Nat.lt_of_lt_of_le hb h.le)).trans (h.own b hb), fun b hb hm => (k.get b (Nat.lt_of_lt_of_le hb h.le) ((h.own b hb).trans hm)).trans (h.get b hb hm), k.ta.trans h.ta, k.av.trans h.av⟩
theorem Frm.ext {H H1 : Heap} {M : Mem} (h : Ext H H1) : Frm H M H1 M := ⟨h.le, fun _ _ => rfl, fun b hb _ => h.get b hb, rfl, rfl⟩
theorem Frm.set {H : Heap} {M M' : Mem} {b : Nat} (hb : M.own b ≠ none) (x : Blk) (eo : M'.own = M.own) (eta : M'.ta = M.ta) (eav : M'.av = M.av) : Frm H M (H.set b x) M' :=
  ⟨by rw [next_set]; exact Nat.le_refl _, fun _ _ => by rw [eo], fun c _ hm => get_set_ne (by intro e; subst e; exact hb hm), eta, eav⟩
theorem Frm.app {H : Heap} {M : Mem} {ro : Role} {v : Value} {es ty n : Nat} {cs : List Value} (hv : OwnL (fun b => M.own b = some ro) H es ty v n cs) (x : Blk) :
    Frm H M ((delV H v).alloc x) { M with own := upd M.own H.next (some ro) } := by
  refine ⟨by show H.next ≤ (delV H v).next + 1; rw [next_delV]; omega, fun b hb => upd_ne (by omega), fun b hb hm => ?_, rfl, rfl⟩
  rw [get_alloc_ne (by rw [next_delV]; omega)]
  rcases hv with ⟨rfl, _⟩ | ⟨b', o, pre, rfl, _, h3, _⟩
  · rfl
  · exact get_del_ne (by intro e; subst e; rw [hm] at h3; cases h3)
/- an append to a list of a role -/
theorem RepX.append {H : Heap} {r : Nat} {M : Mem} {S : Sx} (h : Rep H r M S) (ro : Role) (hro : ro ≠ .run) (hro2 : ro ≠ .arr) (hro3 : ∀ i, ro ≠ .task i) {es ty n bytes c : Nat} {a : Option Addr} {cs vs : List Value}
    (hv : OwnL (fun b => M.own b = some ro) H es ty (.slice a n c) n cs) {nb : Nat} {x : Blk} (hn : H.get nb = some x) (hx : x.cells = vs) (hl : vs.length = es) (h0 : es ≠ 0)
    (ho : vs.all Heap.oneC = true) (hb : 4 * (n + 1) * bytes + 4096 ≤ 2 ^ 47) (hb2 : n + 1 ≤ 2 ^ 47) :
    ∃ H6, appS H ty es bytes a n c (.slice (some ⟨nb, 0, none⟩) 1 1) = some (.slice (some ⟨H.next, 0, none⟩) (n + 1) openCap, H6) ∧ RepX (some ro) H6 r { M with own := upd M.own H.next (some ro) } S ∧
      OwnL (fun b => upd M.own H.next (some ro) b = some ro) H6 es ty (.slice (some ⟨H.next, 0, none⟩) (n + 1) openCap) (n + 1) (cs ++ vs) ∧ Frm H M H6 { M with own := upd M.own H.next (some ro) } ∧ H6.next = H.next + 1 ∧
      ∀ b x, H.get b = some x → M.own b = none → H6.get b = some x := by
  refine ⟨_, appS_own hv rfl hn hx hl h0 ho hb hb2, h.app ro hro hro2 hro3 hv _, hv.appended h.wf upd_same hl, Frm.app hv _, ?_, ?_⟩
  · show (delV H _).next + 1 = _
    rw [next_delV]
  · intro b y hb hm
    exact ((Frm.app hv ⟨ty, es, true, cs ++ vs⟩).get b (h.wf.lt hb) hm).trans hb
end Go.Am.T
