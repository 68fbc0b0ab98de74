/- The walks of the scheduler's functions: Ready; what Run needs. Conditions: those of each theorem. -/
import Derived.Test.YthanhcpnhionaaaSdM
set_option linter.all false
set_option linter.unusedSimpArgs false
set_option linter.unusedVariables false
namespace Go.Am.T
open Go Go.Am Go.Proofs.Ythanhcpnhionaaa Go.Proofs

theorem Frm.toExt {H H1 H2 : Heap} {M M' : Mem} (hE : Ext H H1) (hw : WF H2) (hF : Frm H1 M H2 M') (hno : ∀ b, b < H.next → M.own b = none) : Ext H H2 :=
  ⟨hw, Nat.le_trans hE.le hF.le, fun b hb => (hF.get b (Nat.lt_of_lt_of_le hb hE.le) (hno b hb)).trans (hE.get b hb)⟩
theorem RdI.noOwn {H H1 : Heap} {M : Mem} {v : Value} {l : List Value} (hw : WF H) (h : RdI H v l) (hE : Ext H H1) (hno : ∀ b, b < H.next → M.own b = none) : RdN M H1 v l := by
  refine ⟨h.of fun b x hb => hE.of hw hb, ?_⟩
  intro a n c e hl
  obtain ⟨a', c', e', k⟩ := h
  obtain ⟨hc, b, o, x, ha, hx, _⟩ := k hl
  subst ha
  rw [e] at e'
  simp only [Value.slice.injEq, Option.some.injEq] at e'
  obtain ⟨rfl, _⟩ := e'
  exact hno b (hw.lt hx)

theorem TasksAt.of {H H' : Heap} {tv : Value} {ts : List (List Act)} {av : Nat → Value} (h : TasksAt H tv ts av) (hw : WF H) (hE : Ext H H') : TasksAt H' tv ts av :=
  ⟨h.rd.of fun b x hb => hE.of hw hb, fun i hi => (h.acts i hi).of fun b x hb => hE.of hw hb⟩

theorem okR_run : ∀ (k : Nat) {S : Sx} (picks : List Int), OkR S → OkR (runM k S picks)
  | 0, S, picks, h => h
  | k + 1, S, picks, h => by
    unfold runM
    split
    · exact h
    · rename_i hem
      obtain ⟨hi, hh⟩ := mem_rdy.1 (nextP_mem (last := S.last) (k := S.trace.length) (picks := picks) hem)
      obtain ⟨hat, _, _⟩ := how_3 hh
      exact okR_run k picks (h.step hi hat)
theorem runM_len : ∀ (k : Nat) {S : Sx} (picks : List Int), (runM k S picks).trace.length ≤ S.trace.length + k
  | 0, S, picks => Nat.le_refl _
  | k + 1, S, picks => by
    unfold runM
    split
    · omega
    · rename_i hem
      obtain ⟨hi, hh⟩ := mem_rdy.1 (nextP_mem (last := S.last) (k := S.trace.length) (picks := picks) hem)
      obtain ⟨hat, _, _⟩ := how_3 hh
      have := runM_len k (S := stepM S (nextP S.last S.trace.length (rdy S) picks)) picks
      have kt : (stepM S (nextP S.last S.trace.length (rdy S) picks)).trace.length = S.trace.length + 1 := by rw [(stepM_kp hi hat).trace]; simp [begS]
      omega
theorem runM_N : ∀ (k : Nat) {S : Sx} (picks : List Int), (runM k S picks).N = S.N ∧ (runM k S picks).room = S.room
  | 0, S, picks => ⟨rfl, rfl⟩
  | k + 1, S, picks => by
    unfold runM
    split
    · exact ⟨rfl, rfl⟩
    · rename_i hem
      obtain ⟨hi, hh⟩ := mem_rdy.1 (nextP_mem (last := S.last) (k := S.trace.length) (picks := picks) hem)
      obtain ⟨hat, _, _⟩ := how_3 hh
      have := runM_N k (S := stepM S (nextP S.last S.trace.length (rdy S) picks)) picks
      have hk := stepM_kp hi hat
      exact ⟨this.1.trans hk.N, this.2.trans hk.room⟩

def ReadyPost (H : Heap) (ts : List (List Act)) (room : Int) (picks : List Int) (x : CR) (H' : Heap) : Prop :=
  Ext H H' ∧ ∃ v, x = .ret (.tuple #[v, .int .i64 (askedP ts room picks 0)]) ∧
      (askedP ts room picks 0 ≠ 0 → v = .slice none 0 0) ∧
      (askedP ts room picks 0 = 0 → OwnL (fun b => H.next ≤ b) H' 1 3 v (rdy (runM picks.length (S0 ts room) picks)).length ((rdy (runM picks.length (S0 ts room) picks)).map nv))
theorem Ready_W {H : Heap} (hw : WF H) {tv pv : Value} {ts : List (List Act)} {av : Nat → Value} (ht : TasksAt H tv ts av) (hN : ts.length ≤ 70368744177664) {room : Int} {picks : List Int} (hp : RdI H pv (picks.map iv)) :
    CW Try.prog 17 #[tv, .int .i64 room, pv] H (ReadyPost H ts room picks) := by
  refine CW_k (n := 27) if17 rfl ?_
  unfold C17
  obtain ⟨pa, pc, hpv, _⟩ := id hp
  simp only [List.length_map] at hpv
  simp (config := { implicitDefEqProofs := false, maxDischargeDepth := 6, maxSteps := 1000000 }) only [go_sem, ↓reduceIte, Nat.reduceLT, Nat.reduceLeDiff, Nat.reduceEqDiff, Nat.reduceAdd, Nat.reduceMul, Nat.reduceSub, Nat.reduceBEq, reduceCtorEq, Int.reduceEq, Int.reduceLT, Int.reduceLE, Int.reduceNeg, Int.reduceToNat, ]
  refine CW_mono _ (asked_W hw ht hN (room := room) (most := 0) hp) ?_
  rintro _ H1 ⟨rfl, hE1⟩
  by_cases h0 : askedP ts room picks 0 = 0
  · have hf := asked_ok h0
    simp (config := { implicitDefEqProofs := false, maxDischargeDepth := 6, maxSteps := 1000000 }) only [go_sem, ↓reduceIte, Nat.reduceLT, Nat.reduceLeDiff, Nat.reduceEqDiff, Nat.reduceAdd, Nat.reduceMul, Nat.reduceSub, Nat.reduceBEq, reduceCtorEq, Int.reduceEq, Int.reduceLT, Int.reduceLE, Int.reduceNeg, Int.reduceToNat, h0]
    refine CW_mono _ (begun_W hE1.wf (ht.of hw hE1) (room := room) (by have := hf.n; omega)) ?_
    rintro _ H2 ⟨r, M, rfl, h2, hE2, hno, _⟩
    have hpo := hf.pos
    simp (config := { implicitDefEqProofs := false, maxDischargeDepth := 6, maxSteps := 1000000 }) only [go_sem, ↓reduceIte, Nat.reduceLT, Nat.reduceLeDiff, Nat.reduceEqDiff, Nat.reduceAdd, Nat.reduceMul, Nat.reduceSub, Nat.reduceBEq, reduceCtorEq, Int.reduceEq, Int.reduceLT, Int.reduceLE, Int.reduceNeg, Int.reduceToNat, hpv, goInt]
    have hno' : ∀ b, b < H.next → M.own b = none := fun b hb => hno b (Nat.lt_of_lt_of_le hb hE1.le)
    have hpN := hp.noOwn hw (hE1.trans hE2) hno'
    rw [hpv] at hpN
    refine CW_mono _ (all_W h2 hf.okR (picks := picks) hpN hpo (most := picks.length) hf.p (by simp [S0])) ?_
    rintro _ H3 ⟨rfl, M3, h3, hF3⟩
    have hE3 := Frm.toExt (hE1.trans hE2) h3.wf hF3 hno'
    simp (config := { implicitDefEqProofs := false, maxDischargeDepth := 6, maxSteps := 1000000 }) only [go_sem, ↓reduceIte, Nat.reduceLT, Nat.reduceLeDiff, Nat.reduceEqDiff, Nat.reduceAdd, Nat.reduceMul, Nat.reduceSub, Nat.reduceBEq, reduceCtorEq, Int.reduceEq, Int.reduceLT, Int.reduceLE, Int.reduceNeg, Int.reduceToNat, ]
    have e : picks.length - (S0 ts room).trace.length = picks.length := by simp [S0]
    rw [e] at h3
    have ok3 := okR_run picks.length picks hf.okR
    refine CW_mono _ (ready_W h3 ok3.vs ok3.N) ?_
    rintro _ H4 ⟨v, rfl, hE4, hO⟩
    simp (config := { implicitDefEqProofs := false, maxDischargeDepth := 6, maxSteps := 1000000 }) only [go_sem, ↓reduceIte, Nat.reduceLT, Nat.reduceLeDiff, Nat.reduceEqDiff, Nat.reduceAdd, Nat.reduceMul, Nat.reduceSub, Nat.reduceBEq, reduceCtorEq, Int.reduceEq, Int.reduceLT, Int.reduceLE, Int.reduceNeg, Int.reduceToNat, ]
    refine ⟨hE3.trans hE4, v, by rw [h0], fun h => absurd h0 h, fun _ => hO.frame fun b x hb hg => ⟨Nat.le_trans hE3.le hb, hg⟩⟩
  · simp (config := { implicitDefEqProofs := false, maxDischargeDepth := 6, maxSteps := 1000000 }) only [go_sem, ↓reduceIte, Nat.reduceLT, Nat.reduceLeDiff, Nat.reduceEqDiff, Nat.reduceAdd, Nat.reduceMul, Nat.reduceSub, Nat.reduceBEq, reduceCtorEq, Int.reduceEq, Int.reduceLT, Int.reduceLE, Int.reduceNeg, Int.reduceToNat, h0]
    refine ⟨hE1, _, rfl, fun _ => rfl, fun h => absurd h h0⟩

/- what a run left in memory -/
structure RanAt (lo : Nat) (H : Heap) (S : Sx) (trv rgv ev qsv : Value) (qv : Nat → Value) : Prop where
  trace : OwnL (fun b => lo ≤ b) H 2 39 trv S.trace.length (trC S.trace)
  regs : OwnL (fun b => lo ≤ b) H 1 2 rgv 8 ((List.range 8).map fun j => iv (S.regs j))
  ends : OwnL (fun b => lo ≤ b) H 2 49 ev S.N ((List.range S.N).flatMap fun i => [iv (howS S i), iv (S.tk i).n])
  queues : OwnL (fun b => lo ≤ b) H 1 29 qsv 4 ((List.range 4).map qv)
  queue : ∀ j, j < 4 → OwnL (fun b => lo ≤ b) H 1 2 (qv j) (S.queues j).length ((S.queues j).map iv)

/- append of a whole slice to nil -/
theorem appS_nil {H : Heap} {es ty bytes : Nat} {x : Value} {n : Nat} {news : List Value} (hl : lengthA x = some n) (hf : firstA H es n x = some news) (h0 : 0 < n) (hb : 4 * n * bytes + 4096 ≤ 2 ^ 47) (hb2 : n ≤ 2 ^ 47) :
    appS H ty es bytes none 0 0 x = some (.slice (some ⟨H.next, 0, none⟩) n openCap, H.alloc ⟨ty, es, true, news⟩) := by
  unfold appS
  have e1 : ¬ (4 * (0 + n) * bytes + 4096 > 2 ^ 47 || (0 + n > 2 ^ 47)) = true := by simp; omega
  simp only [hl, Option.bind_eq_bind, Option.bind_some, hf]
  rw [if_pos (show 0 ≠ openCap by unfold openCap; omega), if_neg (by omega), if_neg e1]
  simp [firstA]
theorem appS_nil0 {H : Heap} {es ty bytes : Nat} {a : Option Addr} {c : Nat} : appS H ty es bytes none 0 0 (.slice a 0 c) = some (.slice none 0 0, H) := by
  unfold appS
  have hf : firstA H es 0 (.slice a 0 c) = some [] := by cases a <;> simp [firstA]
  simp only [lengthA, Option.bind_eq_bind, Option.bind_some, hf]
  rw [if_pos (show 0 ≠ openCap by unfold openCap; omega), if_pos (by omega)]
  simp
@[go_sem] theorem ix_63 {a b c d : Value} {k : IntKind} {i : Int} : indexA Try.prog 63 (.agg #[a, b, c, d]) (.int k i) = (if 0 ≤ i ∧ i < (4 : Int) then #[a, b, c, d][i.toNat * 1]? else none) := by kernel_rfl

theorem firstA_own {p : Nat → Prop} {H : Heap} {es ty : Nat} {a : Option Addr} {n c : Nat} {cs : List Value} (h : OwnL p H es ty (.slice a n c) n cs) (h0 : 0 < n) : firstA H es n (.slice a n c) = some cs := by
  rcases h with ⟨h1, h2, h3⟩ | ⟨b, o, pre, h1, h2, h3, h4, h5, h6⟩
  · omega
  · simp only [Value.slice.injEq] at h1
    obtain ⟨rfl, _, rfl⟩ := h1
    show (if n = 0 then some [] else if openCap = 0 then none else H.loads ⟨b, o, none⟩ (n * es)) = some cs
    rw [if_neg (by omega), if_neg (by unfold openCap; omega), loads_eq, h4, Option.bind_some]
    rw [if_pos (by simp [h5, h6])]
    simp [← h5, ← h6]
end Go.Am.T
