/- The scheduler's state in memory, and the walks of its small functions. Conditions: those of each theorem. -/
import Derived.Test.YthanhcpnhionaaaTryFns
import Derived.Test.YthanhcpnhionaaaTryTab
set_option linter.all false
set_option linter.unusedSimpArgs false
set_option linter.unusedVariables false
namespace Go.Am.T
open Go Go.Am Go.Proofs.Ythanhcpnhionaaa Go.Proofs
attribute [go_sem] eq_self if_true if_false ne_eq not_false_eq_true Nat.zero_add Nat.mul_one decide_true decide_false Bool.not_true Bool.not_false List.length_cons List.length_nil List.append_nil List.nil_append Array.toList_append List.toList_toArray Array.append_empty Array.empty_append List.cons_append Int.toNat_natCast and_self true_and and_true Bool.false_or Bool.true_or Bool.or_false Bool.or_self Bool.false_eq_true Bool.and_true Bool.true_and Bool.and_false Bool.false_and Nat.le_refl List.take_succ_cons List.drop_succ_cons List.take_zero List.drop_zero Nat.zero_mul Nat.one_mul List.size_toArray List.set_cons_zero List.append_toArray List.set_cons_succ List.contains_cons List.contains_nil forall_const false_implies true_implies beq_self_eq_true

def upd {α : Type} (f : Nat → α) (i : Nat) (x : α) : Nat → α := fun j => if j = i then x else f j
theorem upd_same {α : Type} {f : Nat → α} {i : Nat} {x : α} : upd f i x i = x := by simp [upd]
theorem upd_ne {α : Type} {f : Nat → α} {i j : Nat} {x : α} (h : j ≠ i) : upd f i x j = f j := by simp [upd, h]

/- an act -/
structure Act where
  k : Int
  a : Int
  b : Int
  n : Int
def Act.cells (x : Act) : List Value := [.int .i64 x.k, .int .i64 x.a, .int .i64 x.b, .int .i64 x.n]
@[go_sem] theorem ac_size {x : Act} : x.cells.toArray.size = 4 := rfl
@[go_sem] theorem ac_len {x : Act} : x.cells.length = 4 := rfl
@[go_sem] theorem ac_one {x : Act} : x.cells.all Heap.oneC = true := of_decide_eq_true rfl
@[go_sem] theorem ac_all {x : Act} : x.cells.take 4 = x.cells := rfl
@[go_sem] theorem ac_k {x : Act} : x.cells[0]? = some (.int .i64 x.k) := rfl
@[go_sem] theorem ac_a {x : Act} : x.cells[1]? = some (.int .i64 x.a) := rfl
@[go_sem] theorem ac_b {x : Act} : x.cells[2]? = some (.int .i64 x.b) := rfl
@[go_sem] theorem ac_n {x : Act} : x.cells[3]? = some (.int .i64 x.n) := rfl

/- a run's block -/
structure RunV where
  tasks : Value
  room : Int
  locks : Nat → Int
  conds : Nat → Value
  queues : Nat → Value
  regs : Nat → Int
  last : Int
  trace : Value
def runCells (R : RunV) : List Value :=
  [R.tasks, .int .i64 R.room, .int .i64 (R.locks 0), .int .i64 (R.locks 1), .int .i64 (R.locks 2), .int .i64 (R.locks 3), R.conds 0, R.conds 1, R.conds 2, R.conds 3,
   R.queues 0, R.queues 1, R.queues 2, R.queues 3, .int .i64 (R.regs 0), .int .i64 (R.regs 1), .int .i64 (R.regs 2), .int .i64 (R.regs 3), .int .i64 (R.regs 4), .int .i64 (R.regs 5), .int .i64 (R.regs 6), .int .i64 (R.regs 7),
   .int .i64 R.last, R.trace]
def runB (R : RunV) : Blk := ⟨76, 0, false, runCells R⟩

section
variable {R : RunV} {i : Nat} {v : Value} {z : Int}
@[go_sem] theorem rb_cells : (runB R).cells = runCells R := rfl
@[go_sem] theorem rb_len : (runCells R).length = 24 := rfl
@[go_sem] theorem r_tasks : (runCells R)[0]? = some R.tasks := rfl
@[go_sem] theorem r_room : (runCells R)[1]? = some (.int .i64 R.room) := rfl
@[go_sem] theorem r_last : (runCells R)[22]? = some (.int .i64 R.last) := rfl
@[go_sem] theorem r_trace : (runCells R)[23]? = some R.trace := rfl
@[go_sem] theorem r_lock (h : i < 4) : (runCells R)[2 + i]? = some (.int .i64 (R.locks i)) := by match i, h with | 0, _ | 1, _ | 2, _ | 3, _ => rfl
@[go_sem] theorem r_cond (h : i < 4) : (runCells R)[6 + i]? = some (R.conds i) := by match i, h with | 0, _ | 1, _ | 2, _ | 3, _ => rfl
@[go_sem] theorem r_queue (h : i < 4) : (runCells R)[10 + i]? = some (R.queues i) := by match i, h with | 0, _ | 1, _ | 2, _ | 3, _ => rfl
@[go_sem] theorem r_reg (h : i < 8) : (runCells R)[14 + i]? = some (.int .i64 (R.regs i)) := by match i, h with | 0, _ | 1, _ | 2, _ | 3, _ | 4, _ | 5, _ | 6, _ | 7, _ => rfl
@[go_sem] theorem r_reg7 : (runCells R)[21]? = some (.int .i64 (R.regs 7)) := rfl
@[go_sem] theorem w_reg7 : ({ runB R with cells := (runCells R).set 21 (.int .i64 z) } : Blk) = runB { R with regs := upd R.regs 7 z } := rfl
@[go_sem] theorem lt24_2 (h : i < 4) : (2 + i < 24) = True := eq_true (by omega)
@[go_sem] theorem lt24_6 (h : i < 4) : (6 + i < 24) = True := eq_true (by omega)
@[go_sem] theorem lt24_10 (h : i < 4) : (10 + i < 24) = True := eq_true (by omega)
@[go_sem] theorem lt24_14 (h : i < 8) : (14 + i < 24) = True := eq_true (by omega)
theorem runB_eq : (⟨76, 0, false, runCells R⟩ : Blk) = runB R := rfl
@[go_sem] theorem w_tasks : ({ runB R with cells := (runCells R).set 0 v } : Blk) = runB { R with tasks := v } := rfl
@[go_sem] theorem w_last : ({ runB R with cells := (runCells R).set 22 (.int .i64 z) } : Blk) = runB { R with last := z } := rfl
@[go_sem] theorem w_trace : ({ runB R with cells := (runCells R).set 23 v } : Blk) = runB { R with trace := v } := rfl
@[go_sem] theorem w_lock (h : i < 4) : ({ runB R with cells := (runCells R).set (2 + i) (.int .i64 z) } : Blk) = runB { R with locks := upd R.locks i z } := by match i, h with | 0, _ | 1, _ | 2, _ | 3, _ => rfl
@[go_sem] theorem w_cond (h : i < 4) : ({ runB R with cells := (runCells R).set (6 + i) v } : Blk) = runB { R with conds := upd R.conds i v } := by match i, h with | 0, _ | 1, _ | 2, _ | 3, _ => rfl
@[go_sem] theorem w_queue (h : i < 4) : ({ runB R with cells := (runCells R).set (10 + i) v } : Blk) = runB { R with queues := upd R.queues i v } := by match i, h with | 0, _ | 1, _ | 2, _ | 3, _ => rfl
@[go_sem] theorem w_reg (h : i < 8) : ({ runB R with cells := (runCells R).set (14 + i) (.int .i64 z) } : Blk) = runB { R with regs := upd R.regs i z } := by match i, h with | 0, _ | 1, _ | 2, _ | 3, _ | 4, _ | 5, _ | 6, _ | 7, _ => rfl
end

/- a task's block -/
structure TaskV where
  acts : Value
  at_ : Int
  guard : Int
  wait : Int
  died : Bool
  n : Int
def taskCells (T : TaskV) : List Value := [T.acts, .int .i64 T.at_, .int .i64 T.guard, .int .i64 T.wait, .bool T.died, .int .i64 T.n]
def taskB (T : TaskV) : Blk := ⟨80, 0, false, taskCells T⟩
section
variable {T : TaskV} {z : Int} {b : Bool}
@[go_sem] theorem tb_cells : (taskB T).cells = taskCells T := rfl
@[go_sem] theorem tb_len : (taskCells T).length = 6 := rfl
@[go_sem] theorem t_acts : (taskCells T)[0]? = some T.acts := rfl
@[go_sem] theorem t_at : (taskCells T)[1]? = some (.int .i64 T.at_) := rfl
@[go_sem] theorem t_guard : (taskCells T)[2]? = some (.int .i64 T.guard) := rfl
@[go_sem] theorem t_wait : (taskCells T)[3]? = some (.int .i64 T.wait) := rfl
@[go_sem] theorem t_died : (taskCells T)[4]? = some (.bool T.died) := rfl
@[go_sem] theorem t_n : (taskCells T)[5]? = some (.int .i64 T.n) := rfl
@[go_sem] theorem u_at : ({ taskB T with cells := (taskCells T).set 1 (.int .i64 z) } : Blk) = taskB { T with at_ := z } := rfl
@[go_sem] theorem u_guard : ({ taskB T with cells := (taskCells T).set 2 (.int .i64 z) } : Blk) = taskB { T with guard := z } := rfl
@[go_sem] theorem u_wait : ({ taskB T with cells := (taskCells T).set 3 (.int .i64 z) } : Blk) = taskB { T with wait := z } := rfl
@[go_sem] theorem u_died : ({ taskB T with cells := (taskCells T).set 4 (.bool b) } : Blk) = taskB { T with died := b } := rfl
@[go_sem] theorem u_n : ({ taskB T with cells := (taskCells T).set 5 (.int .i64 z) } : Blk) = taskB { T with n := z } := rfl
end

/- a slice that reads as a list of acts -/
def ActsAt (H : Heap) (v : Value) (l : List Act) : Prop := ∃ a c, v = .slice a l.length c ∧ (l ≠ [] → c ≠ 0 ∧ ∃ b o x, a = some ⟨b, o, none⟩ ∧ H.get b = some x ∧ ∀ i (h : i < l.length), o + i * 4 + 4 ≤ x.cells.length ∧ (x.cells.drop (o + i * 4)).take 4 = (l[i]).cells)
theorem ActsAt.len {H : Heap} {v : Value} {l : List Act} (h : ActsAt H v l) : ∃ a c, v = .slice a l.length c := let ⟨a, c, e, _⟩ := h; ⟨a, c, e⟩
theorem ActsAt.at_ {H : Heap} {v : Value} {l : List Act} (h : ActsAt H v l) {i : Nat} (hi : i < l.length) : ∃ b o c x, v = .slice (some ⟨b, o, none⟩) l.length c ∧ c ≠ 0 ∧ H.get b = some x ∧ o + i * 4 + 4 ≤ x.cells.length ∧ (x.cells.drop (o + i * 4)).take 4 = (l[i]).cells := by
  obtain ⟨a, c, e, k⟩ := h
  obtain ⟨hc, b, o, x, rfl, hx, k⟩ := k (by intro e; subst e; cases hi)
  exact ⟨b, o, c, x, e, hc, hx, k i hi⟩
theorem ActsAt.of {H H' : Heap} {v : Value} {l : List Act} (h : ActsAt H v l) (k : ∀ b x, H.get b = some x → H'.get b = some x) : ActsAt H' v l := by
  obtain ⟨a, c, e, q⟩ := h
  refine ⟨a, c, e, fun hl => ?_⟩
  obtain ⟨hc, b, o, x, ha, hx, q⟩ := q hl
  exact ⟨hc, b, o, x, ha, k b x hx, q⟩

theorem ended_W {H : Heap} {t : Nat} {T : TaskV} {a : Option Addr} {n c : Nat} (ht : H.get t = some (taskB T)) (ha : T.acts = .slice a n c) :
   CW Try.prog 42 #[.pointer (some ⟨t, 0, none⟩)] H fun r H' => r = .ret (.bool (T.died || decide (n ≤ T.at_))) ∧ H = H' := by
  refine CW_k (n := 19) if42 rfl ?_
  unfold C42
  cases hd : T.died <;> simp (config := { implicitDefEqProofs := false, maxDischargeDepth := 6, maxSteps := 1000000 }) only [go_sem, ↓reduceIte, Nat.reduceLT, Nat.reduceLeDiff, Nat.reduceEqDiff, Nat.reduceAdd, Nat.reduceMul, Nat.reduceSub, Nat.reduceBEq, reduceCtorEq, Int.reduceEq, Int.reduceLT, Int.reduceLE, Int.reduceNeg, Int.reduceToNat, ht, hd, ha, goInt, Bool.true_or, Bool.false_or, and_self]

theorem act_W {H : Heap} (hw : WF H) {t : Nat} {T : TaskV} {l : List Act} (ht : H.get t = some (taskB T)) (ha : ActsAt H T.acts l) {i : Nat} (hi : i < l.length) (hat : T.at_ = i) :
   CW Try.prog 43 #[.pointer (some ⟨t, 0, none⟩)] H fun r H' => r = .ret (.agg (l[i]).cells.toArray) ∧ Ext H H' := by
  obtain ⟨b, o, c, x, e, hc, hx, hle, hcs⟩ := ha.at_ hi
  refine CW_k (n := 13) if43 rfl ?_
  unfold C43
  have hb := hw.1
  have htl := hw.lt ht
  have hbl := hw.lt hx
  have h0 : (0 : Int) ≤ (i : Int) := by omega
  have h1 : (i : Int) < (l.length : Int) := by omega
  simp (config := { implicitDefEqProofs := false, maxDischargeDepth := 6, maxSteps := 1000000 }) only [go_sem, ↓reduceIte, Nat.reduceLT, Nat.reduceLeDiff, Nat.reduceEqDiff, Nat.reduceAdd, Nat.reduceMul, Nat.reduceSub, Nat.reduceBEq, reduceCtorEq, Int.reduceEq, Int.reduceLT, Int.reduceLE, Int.reduceNeg, Int.reduceToNat, ht, e, hat, htl, hbl, hb, hc, h0, h1, and_self, Bool.false_or, Bool.or_self, Bool.false_eq_true, Int.toNat_natCast, loads_eq, hx, hle, hcs, Nat.le_refl]
  exact (((Ext.refl hw).alloc _).bump _).set (Nat.le_refl _) (by simp only [go_sem]) _

/- what an act's fields may be -/
structure Valid (m : Nat) (a : Act) : Prop where
  k1 : 1 ≤ a.k
  k2 : a.k ≤ 13
  a4 : a.k ≤ 7 → 0 ≤ a.a ∧ a.a < 4
  a8 : a.k = 8 ∨ a.k = 9 ∨ a.k = 10 → 0 ≤ a.a ∧ a.a < 8
  b4 : a.k = 3 → 0 ≤ a.b ∧ a.b < 4
  b8 : a.k = 7 ∨ a.k = 9 → 0 ≤ a.b ∧ a.b < 8
  n10 : a.k = 10 → 0 ≤ a.n ∧ a.n ≤ 255
  n13 : a.k = 13 → 0 ≤ a.n ∧ a.n ≤ m

def howP (locks : Nat → Int) (room : Int) (ql : Nat → Nat) (T : TaskV) (l : List Act) : Int :=
  if T.died then 2 else
  match l[T.at_.toNat]? with
  | none => 1
  | some a =>
    if a.k = 1 ∧ 0 ≤ locks a.a.toNat ∨ a.k = 3 ∧ T.wait = 2 ∧ 0 ≤ locks a.b.toNat then 4
    else if a.k = 3 ∧ T.wait = 1 then 5
    else if a.k = 6 ∧ room ≤ ql a.a.toNat then 6
    else if a.k = 7 ∧ ql a.a.toNat = 0 then 7 else 3

theorem how_W {H : Heap} (hw : WF H) {r t : Nat} {R : RunV} {T : TaskV} {l : List Act} (hr : H.get r = some (runB R)) (ht : H.get t = some (taskB T)) (ha : ActsAt H T.acts l) {i : Nat} (hat : T.at_ = i)
    (hv : ∀ (h : i < l.length), Valid l.length l[i]) {ql : Nat → Nat} {qa : Nat → Option Addr} {qc : Nat → Nat} (hq : ∀ j, j < 4 → R.queues j = .slice (qa j) (ql j) (qc j)) :
   CW Try.prog 31 #[.pointer (some ⟨r, 0, none⟩), .pointer (some ⟨t, 0, none⟩)] H fun x H' => x = .ret (.int .i64 (howP R.locks R.room ql T l)) ∧ Ext H H' := by
  refine CW_k (n := 93) if31 rfl ?_
  unfold C31
  have hb := hw.1
  have htl := hw.lt ht
  have hrl := hw.lt hr
  cases hd : T.died
  case true => 
    simp (config := { implicitDefEqProofs := false, maxDischargeDepth := 6, maxSteps := 1000000 }) only [go_sem, ↓reduceIte, Nat.reduceLT, Nat.reduceLeDiff, Nat.reduceEqDiff, Nat.reduceAdd, Nat.reduceMul, Nat.reduceSub, Nat.reduceBEq, reduceCtorEq, Int.reduceEq, Int.reduceLT, Int.reduceLE, Int.reduceNeg, Int.reduceToNat, ht, hd, howP]
    exact Ext.refl hw
  simp (config := { implicitDefEqProofs := false, maxDischargeDepth := 6, maxSteps := 1000000 }) only [go_sem, ↓reduceIte, Nat.reduceLT, Nat.reduceLeDiff, Nat.reduceEqDiff, Nat.reduceAdd, Nat.reduceMul, Nat.reduceSub, Nat.reduceBEq, reduceCtorEq, Int.reduceEq, Int.reduceLT, Int.reduceLE, Int.reduceNeg, Int.reduceToNat, ht, hd]
  obtain ⟨a, c, hsl⟩ := ha.len
  refine CW_mono _ (ended_W ht hsl) ?_
  rintro _ _ ⟨rfl, rfl⟩
  by_cases hi : i < l.length
  case neg =>
    have h1 : (l.length : Int) ≤ T.at_ := by omega
    have h2 : l[T.at_.toNat]? = none := by rw [hat]; simp; omega
    simp (config := { implicitDefEqProofs := false, maxDischargeDepth := 6, maxSteps := 1000000 }) only [go_sem, ↓reduceIte, Nat.reduceLT, Nat.reduceLeDiff, Nat.reduceEqDiff, Nat.reduceAdd, Nat.reduceMul, Nat.reduceSub, Nat.reduceBEq, reduceCtorEq, Int.reduceEq, Int.reduceLT, Int.reduceLE, Int.reduceNeg, Int.reduceToNat, hd, h1, howP, h2]
    exact Ext.refl hw
  have h1 : ¬ (l.length : Int) ≤ T.at_ := by omega
  have hg : l[T.at_.toNat]? = some l[i] := by rw [hat]; simp [hi]
  simp (config := { implicitDefEqProofs := false, maxDischargeDepth := 6, maxSteps := 1000000 }) only [go_sem, ↓reduceIte, Nat.reduceLT, Nat.reduceLeDiff, Nat.reduceEqDiff, Nat.reduceAdd, Nat.reduceMul, Nat.reduceSub, Nat.reduceBEq, reduceCtorEq, Int.reduceEq, Int.reduceLT, Int.reduceLE, Int.reduceNeg, Int.reduceToNat, hd, h1]
  refine CW_mono _ (act_W hw ht ha hi hat) ?_
  rintro _ H1 ⟨rfl, hE⟩
  have hr1 := hE.of hw hr
  have ht1 := hE.of hw ht
  have hrl1 := hE.wf.lt hr1
  have htl1 := hE.wf.lt ht1
  have hb1 := hE.wf.1
  have hV := hv hi
  generalize l[i] = x at *
  have hE' : ∀ y, Ext H (((H1.alloc y).set H1.next ⟨47, 0, false, x.cells⟩)) := fun y => (hE.alloc _).set hE.le (by simp only [go_sem]) _
  by_cases k1 : x.k = 1
  · obtain ⟨h0, h4⟩ := hV.a4 (by omega)
    have hA : x.a.toNat < 4 := by omega
    by_cases hl : 0 ≤ R.locks x.a.toNat
    · simp (config := { implicitDefEqProofs := false, maxDischargeDepth := 6, maxSteps := 1000000 }) only [go_sem, ↓reduceIte, Nat.reduceLT, Nat.reduceLeDiff, Nat.reduceEqDiff, Nat.reduceAdd, Nat.reduceMul, Nat.reduceSub, Nat.reduceBEq, reduceCtorEq, Int.reduceEq, Int.reduceLT, Int.reduceLE, Int.reduceNeg, Int.reduceToNat, k1, h0, h4, hA, hl, hr1, ht1, hrl1, htl1, hb1]
      exact ⟨by simp [howP, hd, hg, k1, hl], hE' _⟩
    · simp (config := { implicitDefEqProofs := false, maxDischargeDepth := 6, maxSteps := 1000000 }) only [go_sem, ↓reduceIte, Nat.reduceLT, Nat.reduceLeDiff, Nat.reduceEqDiff, Nat.reduceAdd, Nat.reduceMul, Nat.reduceSub, Nat.reduceBEq, reduceCtorEq, Int.reduceEq, Int.reduceLT, Int.reduceLE, Int.reduceNeg, Int.reduceToNat, k1, h0, h4, hA, hl, hr1, ht1, hrl1, htl1, hb1]
      exact ⟨by simp [howP, hd, hg, k1, hl], hE' _⟩
  by_cases k3 : x.k = 3
  · obtain ⟨h0, h4⟩ := hV.b4 (by omega)
    have hA : x.b.toNat < 4 := by omega
    by_cases w2 : T.wait = 2
    · by_cases hl : 0 ≤ R.locks x.b.toNat
      · simp (config := { implicitDefEqProofs := false, maxDischargeDepth := 6, maxSteps := 1000000 }) only [go_sem, ↓reduceIte, Nat.reduceLT, Nat.reduceLeDiff, Nat.reduceEqDiff, Nat.reduceAdd, Nat.reduceMul, Nat.reduceSub, Nat.reduceBEq, reduceCtorEq, Int.reduceEq, Int.reduceLT, Int.reduceLE, Int.reduceNeg, Int.reduceToNat, k3, w2, h0, h4, hA, hl, hr1, ht1, hrl1, htl1, hb1]
        exact ⟨by simp [howP, hd, hg, k3, w2, hl], hE' _⟩
      · simp (config := { implicitDefEqProofs := false, maxDischargeDepth := 6, maxSteps := 1000000 }) only [go_sem, ↓reduceIte, Nat.reduceLT, Nat.reduceLeDiff, Nat.reduceEqDiff, Nat.reduceAdd, Nat.reduceMul, Nat.reduceSub, Nat.reduceBEq, reduceCtorEq, Int.reduceEq, Int.reduceLT, Int.reduceLE, Int.reduceNeg, Int.reduceToNat, k3, w2, h0, h4, hA, hl, hr1, ht1, hrl1, htl1, hb1]
        exact ⟨by simp [howP, hd, hg, k3, w2, hl], hE' _⟩
    · by_cases w1 : T.wait = 1
      · simp (config := { implicitDefEqProofs := false, maxDischargeDepth := 6, maxSteps := 1000000 }) only [go_sem, ↓reduceIte, Nat.reduceLT, Nat.reduceLeDiff, Nat.reduceEqDiff, Nat.reduceAdd, Nat.reduceMul, Nat.reduceSub, Nat.reduceBEq, reduceCtorEq, Int.reduceEq, Int.reduceLT, Int.reduceLE, Int.reduceNeg, Int.reduceToNat, k3, w1, h0, h4, hA, hr1, ht1, hrl1, htl1, hb1]
        exact ⟨by simp [howP, hd, hg, k3, w1], hE' _⟩
      · simp (config := { implicitDefEqProofs := false, maxDischargeDepth := 6, maxSteps := 1000000 }) only [go_sem, ↓reduceIte, Nat.reduceLT, Nat.reduceLeDiff, Nat.reduceEqDiff, Nat.reduceAdd, Nat.reduceMul, Nat.reduceSub, Nat.reduceBEq, reduceCtorEq, Int.reduceEq, Int.reduceLT, Int.reduceLE, Int.reduceNeg, Int.reduceToNat, k3, w1, w2, h0, h4, hA, hr1, ht1, hrl1, htl1, hb1]
        exact ⟨by simp [howP, hd, hg, k3, w1, w2], hE' _⟩
  by_cases k6 : x.k = 6
  · obtain ⟨h0, h4⟩ := hV.a4 (by omega)
    have hA : x.a.toNat < 4 := by omega
    have hqA := hq _ hA
    by_cases hl : R.room ≤ ql x.a.toNat
    · simp (config := { implicitDefEqProofs := false, maxDischargeDepth := 6, maxSteps := 1000000 }) only [go_sem, ↓reduceIte, Nat.reduceLT, Nat.reduceLeDiff, Nat.reduceEqDiff, Nat.reduceAdd, Nat.reduceMul, Nat.reduceSub, Nat.reduceBEq, reduceCtorEq, Int.reduceEq, Int.reduceLT, Int.reduceLE, Int.reduceNeg, Int.reduceToNat, k6, h0, h4, hA, hqA, goInt, hl, hr1, ht1, hrl1, htl1, hb1]
      exact ⟨by simp [howP, hd, hg, k6, hl], hE' _⟩
    · simp (config := { implicitDefEqProofs := false, maxDischargeDepth := 6, maxSteps := 1000000 }) only [go_sem, ↓reduceIte, Nat.reduceLT, Nat.reduceLeDiff, Nat.reduceEqDiff, Nat.reduceAdd, Nat.reduceMul, Nat.reduceSub, Nat.reduceBEq, reduceCtorEq, Int.reduceEq, Int.reduceLT, Int.reduceLE, Int.reduceNeg, Int.reduceToNat, k6, h0, h4, hA, hqA, goInt, hl, hr1, ht1, hrl1, htl1, hb1]
      exact ⟨by simp [howP, hd, hg, k6, hl], hE' _⟩
  by_cases k7 : x.k = 7
  · obtain ⟨h0, h4⟩ := hV.a4 (by omega)
    have hA : x.a.toNat < 4 := by omega
    have hqA := hq _ hA
    by_cases hl : ql x.a.toNat = 0
    · simp (config := { implicitDefEqProofs := false, maxDischargeDepth := 6, maxSteps := 1000000 }) only [go_sem, ↓reduceIte, Nat.reduceLT, Nat.reduceLeDiff, Nat.reduceEqDiff, Nat.reduceAdd, Nat.reduceMul, Nat.reduceSub, Nat.reduceBEq, reduceCtorEq, Int.reduceEq, Int.reduceLT, Int.reduceLE, Int.reduceNeg, Int.reduceToNat, k7, h0, h4, hA, hqA, goInt, hl, hr1, ht1, hrl1, htl1, hb1, Int.natCast_zero]
      exact ⟨by simp [howP, hd, hg, k7, hl], hE' _⟩
    · have hl' : ¬ (ql x.a.toNat : Int) = 0 := by omega
      simp (config := { implicitDefEqProofs := false, maxDischargeDepth := 6, maxSteps := 1000000 }) only [go_sem, ↓reduceIte, Nat.reduceLT, Nat.reduceLeDiff, Nat.reduceEqDiff, Nat.reduceAdd, Nat.reduceMul, Nat.reduceSub, Nat.reduceBEq, reduceCtorEq, Int.reduceEq, Int.reduceLT, Int.reduceLE, Int.reduceNeg, Int.reduceToNat, k7, h0, h4, hA, hqA, goInt, hl', hr1, ht1, hrl1, htl1, hb1]
      exact ⟨by simp [howP, hd, hg, k7, hl], hE' _⟩
  · simp (config := { implicitDefEqProofs := false, maxDischargeDepth := 6, maxSteps := 1000000 }) only [go_sem, ↓reduceIte, Nat.reduceLT, Nat.reduceLeDiff, Nat.reduceEqDiff, Nat.reduceAdd, Nat.reduceMul, Nat.reduceSub, Nat.reduceBEq, reduceCtorEq, Int.reduceEq, Int.reduceLT, Int.reduceLE, Int.reduceNeg, Int.reduceToNat, k1, k3, k6, k7, hr1, ht1, hrl1, htl1, hb1]
    exact ⟨by simp [howP, hd, hg, k1, k3, k6, k7], hE' _⟩
end Go.Am.T
