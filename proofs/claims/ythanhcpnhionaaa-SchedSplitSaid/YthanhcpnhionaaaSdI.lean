/- The walks of the scheduler's functions: all. Conditions: those of each theorem. -/
import Derived.Test.YthanhcpnhionaaaSdH
set_option linter.all false
set_option linter.unusedSimpArgs false
set_option linter.unusedVariables false
namespace Go.Am.T
open Go Go.Am Go.Proofs.Ythanhcpnhionaaa Go.Proofs

/- what an act's doing keeps -/
structure Kp (S S' : Sx) : Prop where
  N : S'.N = S.N
  acts : ∀ j, (S'.tk j).acts = (S.tk j).acts
  room : S'.room = S.room
  trace : S'.trace = S.trace
  cond : ∀ j, (S'.conds j).length ≤ (S.conds j).length + 1
  queue : ∀ j, (S'.queues j).length ≤ (S.queues j).length + 1
  ci : CI S → CI S'
theorem Kp.refl {S : Sx} : Kp S S := ⟨rfl, fun _ => rfl, rfl, rfl, fun _ => Nat.le_succ _, fun _ => Nat.le_succ _, id⟩
theorem Kp.setTk {S S' : Sx} (h : Kp S S') {i : Nat} {t : Tk} (ht : t.acts = (S'.tk i).acts) : Kp S (setTk S' i t) :=
  ⟨h.N, fun j => by
    by_cases e : j = i
    · subst e; simp only [Go.Am.T.setTk, upd_same]; rw [ht]; exact h.acts j
    · simp only [Go.Am.T.setTk, upd_ne e]; exact h.acts j, h.room, h.trace, h.cond, h.queue, h.ci⟩
theorem Kp.wakeAll {S : Sx} (l : List Nat) : ∀ {S' : Sx}, Kp S S' → Kp S (wakeAll S' l) := by
  induction l with
  | nil => intro S' h; exact h
  | cons i l ih => intro S' h; exact ih (h.setTk rfl)
theorem Kp.wakeM {S : Sx} {c n : Nat} : Kp S (wakeM S c n) := by
  have h := Kp.wakeAll ((S.conds c).take n) (Kp.refl (S := S))
  refine ⟨h.N, h.acts, h.room, h.trace, fun j => ?_, h.queue, fun hc j hj x hx => ?_⟩
  · show (upd S.conds c ((S.conds c).drop n) j).length ≤ _
    by_cases e : j = c
    · subst e; rw [upd_same, List.length_drop]; omega
    · rw [upd_ne e]; omega
  · have hx : x ∈ upd S.conds c ((S.conds c).drop n) j := hx
    show x < (Go.Am.T.wakeAll S ((S.conds c).take n)).N
    rw [h.N]
    by_cases e : j = c
    · subst e; rw [upd_same] at hx; exact hc j hj x (List.mem_of_mem_drop hx)
    · rw [upd_ne e] at hx; exact hc j hj x hx
theorem Kp.ite {S : Sx} {c : Prop} [Decidable c] {x y : Sx × Option Int} (hx : Kp S x.1) (hy : Kp S y.1) : Kp S (if c then x else y).1 := by split <;> assumption
theorem Kp.same {S S' S2 : Sx} (h : Kp S S') (e1 : S2.N = S'.N) (e2 : S2.tk = S'.tk) (e3 : S2.room = S'.room) (e4 : S2.trace = S'.trace) (e5 : S2.conds = S'.conds) (e6 : S2.queues = S'.queues) : Kp S S2 :=
  ⟨e1.trans h.N, by rw [e2]; exact h.acts, e3.trans h.room, e4.trans h.trace, by rw [e5]; exact h.cond, by rw [e6]; exact h.queue, by unfold CI; rw [e5, e1]; exact h.ci⟩

theorem Kp.adv {S S' : Sx} {i : Nat} (h : Kp S S') : Kp S (adv S' i) := h.setTk rfl
theorem doA_kp {S : Sx} {i : Nat} {a : Act} (hi : i < S.N) : Kp S (doA S i a).1 := by
  unfold doA
  refine Kp.ite ?_ (Kp.ite (Kp.ite ?_ ?_) (Kp.ite (Kp.ite (Kp.ite ?_ ?_) ?_) (Kp.ite ?_ (Kp.ite ?_ (Kp.ite ?_ (Kp.ite ?_ (Kp.ite ?_ (Kp.ite ?_ (Kp.ite (Kp.ite ?_ ?_) (Kp.ite ?_ (Kp.ite ?_ ?_)))))))))))
  · exact Kp.adv (S' := { S with locks := upd S.locks a.a.toNat i }) (Kp.same (S' := S) Kp.refl rfl rfl rfl rfl rfl rfl)
  · exact Kp.adv (S' := { S with locks := upd S.locks a.a.toNat (-1) }) (Kp.same (S' := S) Kp.refl rfl rfl rfl rfl rfl rfl)
  · exact Kp.refl
  · have h : Kp S (setTk S i { S.tk i with wait := 1 }) := Kp.setTk Kp.refl rfl
    refine ⟨h.N, h.acts, h.room, h.trace, fun j => ?_, h.queue, fun hc j hj x hx => ?_⟩
    · show (upd S.conds a.a.toNat (S.conds a.a.toNat ++ [i]) j).length ≤ _
      by_cases e : j = a.a.toNat
      · subst e; rw [upd_same, List.length_append]; exact Nat.le_refl _
      · rw [upd_ne e]; omega
    · have hx : x ∈ upd S.conds a.a.toNat (S.conds a.a.toNat ++ [i]) j := hx
      show x < S.N
      by_cases e : j = a.a.toNat
      · subst e; rw [upd_same, List.mem_append, List.mem_singleton] at hx
        rcases hx with hx | hx
        · exact hc _ hj x hx
        · subst hx; exact hi
      · rw [upd_ne e] at hx; exact hc j hj x hx
  · exact Kp.refl
  · exact Kp.adv (S' := waitS2 S i a) (Kp.same (S' := setTk S i { S.tk i with wait := 0 }) (Kp.setTk Kp.refl rfl) rfl rfl rfl rfl rfl rfl)
  · exact Kp.adv Kp.wakeM
  · exact Kp.adv Kp.wakeM
  · refine Kp.adv (S' := { S with queues := upd S.queues a.a.toNat (S.queues a.a.toNat ++ [a.n]) }) ⟨rfl, fun _ => rfl, rfl, rfl, fun _ => Nat.le_succ _, fun j => ?_, id⟩
    show (upd S.queues a.a.toNat (S.queues a.a.toNat ++ [a.n]) j).length ≤ _
    by_cases e : j = a.a.toNat
    · subst e; rw [upd_same, List.length_append]; exact Nat.le_refl _
    · rw [upd_ne e]; omega
  · refine Kp.adv (S' := { S with regs := upd S.regs a.b.toNat ((S.queues a.a.toNat).headD 0), queues := upd S.queues a.a.toNat (S.queues a.a.toNat).tail }) ⟨rfl, fun _ => rfl, rfl, rfl, fun _ => Nat.le_succ _, fun j => ?_, id⟩
    show (upd S.queues a.a.toNat (S.queues a.a.toNat).tail j).length ≤ _
    by_cases e : j = a.a.toNat
    · subst e; rw [upd_same, List.length_tail]; omega
    · rw [upd_ne e]; omega
  · exact Kp.adv (S' := { S with regs := upd S.regs a.a.toNat (IntKind.i64.wrap (S.regs a.a.toNat + a.n)) }) (Kp.same (S' := S) Kp.refl rfl rfl rfl rfl rfl rfl)
  · exact Kp.adv (S' := { S with regs := upd S.regs a.b.toNat (S.regs a.a.toNat) }) (Kp.same (S' := S) Kp.refl rfl rfl rfl rfl rfl rfl)
  · exact Kp.adv (Kp.setTk Kp.refl rfl)
  · exact Kp.adv Kp.refl
  · exact Kp.refl
  · exact Kp.adv (Kp.setTk Kp.refl rfl)
  · exact Kp.adv Kp.refl

/- what holds of a run under way -/
structure OkR (S : Sx) : Prop where
  vs : VS S
  ci : CI S
  len : ∀ i, i < S.N → (S.tk i).acts.length ≤ 65536
  N : S.N ≤ 65536
  cb : ∀ j, (S.conds j).length ≤ S.trace.length
  qb : ∀ j, (S.queues j).length ≤ S.trace.length

theorem stepM_kp {S : Sx} {i : Nat} (hi : i < S.N) (hat : (S.tk i).at_ < (S.tk i).acts.length) : Kp (begS S i) (stepM S i) := by
  unfold stepM
  rw [List.getElem?_eq_getElem hat]
  have h := doA_kp (S := begS S i) (i := i) (a := (S.tk i).acts[(S.tk i).at_]) hi
  dsimp only
  generalize doA (begS S i) i (S.tk i).acts[(S.tk i).at_] = d at h
  obtain ⟨S1, po⟩ := d
  cases po with
  | none => exact h
  | some n =>
    show Kp _ (caughtM S1 i n)
    unfold caughtM
    split
    · exact h.setTk rfl
    · exact Kp.same (h.setTk (i := i) (t := { S1.tk i with at_ := (S1.tk i).guard.toNat, guard := -1, wait := 0 }) rfl) rfl rfl rfl rfl rfl rfl

theorem OkR.step {S : Sx} (h : OkR S) {i : Nat} (hi : i < S.N) (hat : (S.tk i).at_ < (S.tk i).acts.length) : OkR (stepM S i) := by
  have k := stepM_kp hi hat
  have kt : (stepM S i).trace.length = S.trace.length + 1 := by rw [k.trace]; simp [begS]
  refine ⟨?_, k.ci h.ci, ?_, by rw [k.N]; exact h.N, fun j => ?_, fun j => ?_⟩
  · intro j hj m hm
    have e := k.acts j
    have hj : j < S.N := by rw [k.N] at hj; exact hj
    have e : ((stepM S i).tk j).acts = (S.tk j).acts := e
    simp only [e] at hm ⊢
    exact h.vs j hj m hm
  · intro j hj
    have e : ((stepM S i).tk j).acts = (S.tk j).acts := k.acts j
    rw [e]
    exact h.len j (by rw [k.N] at hj; exact hj)
  · have := k.cond j; have h2 := h.cb j; have e : (begS S i).conds j = S.conds j := rfl; rw [e] at this; omega
  · have := k.queue j; have h2 := h.qb j; have e : (begS S i).queues j = S.queues j := rfl; rw [e] at this; omega

/- who is ready, and what that says -/
theorem mem_rdy {S : Sx} {i : Nat} : i ∈ rdy S ↔ i < S.N ∧ howS S i = 3 := by
  unfold rdy rdyTo
  simp
theorem how_3 {S : Sx} {i : Nat} (h : howS S i = 3) : ∃ hat : (S.tk i).at_ < (S.tk i).acts.length, ((S.tk i).acts[(S.tk i).at_].k = 7 → S.queues (S.tk i).acts[(S.tk i).at_].a.toNat ≠ []) ∧ (S.tk i).died = false := by
  unfold howS howP at h
  have e : (tkV .nilIface (S.tk i)).at_.toNat = (S.tk i).at_ := by simp [tkV]
  have e2 : (tkV .nilIface (S.tk i)).died = (S.tk i).died := rfl
  rw [e, e2] at h
  cases hd : (S.tk i).died with
  | true => rw [hd] at h; simp at h
  | false =>
    rw [hd] at h
    simp only [Bool.false_eq_true, if_false] at h
    by_cases hat : (S.tk i).at_ < (S.tk i).acts.length
    · refine ⟨hat, ?_, rfl⟩
      rw [List.getElem?_eq_getElem hat] at h
      intro hk hq
      simp only [hk, hq, List.length_nil] at h
      simp at h
    · rw [List.getElem?_eq_none (by omega)] at h
      simp at h

theorem nextP_mem {last : Int} {k : Nat} {l : List Nat} {picks : List Int} (hl : l ≠ []) : nextP last k l picks ∈ l := by
  have hlen : 0 < l.length := by cases l with | nil => exact absurd rfl hl | cons a b => simp
  unfold nextP
  split
  · rename_i p hp
    have hm : p.toNat % l.length < l.length := Nat.mod_lt _ hlen
    rw [List.getD_eq_getElem?_getD, List.getElem?_eq_getElem hm]
    exact List.getElem_mem hm
  · cases hf : l.find? (fun (i : Nat) => decide (last < (i : Int))) with
    | some x => exact List.mem_of_find?_eq_some hf
    | none =>
      rw [Option.getD_none, List.getD_eq_getElem?_getD, List.getElem?_eq_getElem hlen]
      exact List.getElem_mem hlen

def runM : Nat → Sx → List Int → Sx
  | 0, S, _ => S
  | k + 1, S, picks => if rdy S = [] then S else runM k (stepM S (nextP S.last S.trace.length (rdy S) picks)) picks

/- a slice in memory that is not the run's -/
def RdN (M : Mem) (H : Heap) (v : Value) (l : List Value) : Prop := RdI H v l ∧ ∀ a n c, v = .slice (some a) n c → l ≠ [] → M.own a.block = none
theorem RdN.frm {M M' : Mem} {H H' : Heap} {v : Value} {l : List Value} (h : RdN M H v l) (hw : WF H) (hF : Frm H M H' M') : RdN M' H' v l := by
  obtain ⟨⟨a, c, e, k⟩, ho⟩ := h
  refine ⟨⟨a, c, e, fun hl => ?_⟩, ?_⟩
  · obtain ⟨hc, b, o, x, ha, hx, q⟩ := k hl
    subst ha
    have hob := ho _ _ _ e hl
    exact ⟨hc, b, o, x, rfl, (hF.get b (hw.lt hx) hob).trans hx, q⟩
  · intro a' n' c' e' hl
    have hob := ho _ _ _ e' hl
    obtain ⟨hc, b, o, x, ha, hx, q⟩ := k hl
    subst ha
    rw [e] at e'
    simp only [Value.slice.injEq, Option.some.injEq] at e'
    obtain ⟨rfl, _⟩ := e'
    exact (hF.own b (hw.lt hx)).trans hob

theorem rdy_len (S : Sx) : (rdy S).length ≤ S.N := rdyTo_len S S.N

theorem all_W {H : Heap} {r : Nat} {M : Mem} {S : Sx} (h : Rep H r M S) (ok : OkR S) {pv : Value} {picks : List Int} (hp : RdN M H pv (picks.map iv)) (hpos : ∀ p ∈ picks, 0 ≤ p) {most : Nat} (hm : most ≤ 65536) (ht : S.trace.length ≤ 65536) :
   CW Try.prog 30 #[.pointer (some ⟨r, 0, none⟩), pv, nv most] H fun x H' => x = .ret (.tuple #[]) ∧ ∃ M', Rep H' r M' (runM (most - S.trace.length) S picks) ∧ Frm H M H' M' := by
  refine CW_k (n := 25) if30 rfl ?_
  unfold C30
  simp (config := { implicitDefEqProofs := false, maxDischargeDepth := 6, maxSteps := 1000000 }) only [go_sem, ↓reduceIte, Nat.reduceLT, Nat.reduceLeDiff, Nat.reduceEqDiff, Nat.reduceAdd, Nat.reduceMul, Nat.reduceSub, Nat.reduceBEq, reduceCtorEq, Int.reduceEq, Int.reduceLT, Int.reduceLE, Int.reduceNeg, Int.reduceToNat, nv]
  refine Wk_loopF (fun m f H1 => ∃ S1 M1, m = most - S1.trace.length ∧ S1.trace.length ≤ 65536 ∧ f.get 0 = some (.pointer (some ⟨r, 0, none⟩)) ∧ f.get 1 = some pv ∧ f.get 2 = some (nv most) ∧ Rep H1 r M1 S1 ∧ OkR S1 ∧ Frm H M H1 M1 ∧
    runM (most - S1.trace.length) S1 picks = runM (most - S.trace.length) S picks) (most - S.trace.length) ?_ ?_
  · refine ⟨S, M, rfl, ht, ?_, ?_, ?_, h, ok, Frm.refl, rfl⟩
    all_goals simp (config := { implicitDefEqProofs := false, maxDischargeDepth := 6, maxSteps := 1000000 }) only [go_sem, ↓reduceIte, Nat.reduceLT, Nat.reduceLeDiff, Nat.reduceEqDiff, Nat.reduceAdd, Nat.reduceMul, Nat.reduceSub, Nat.reduceBEq, reduceCtorEq, Int.reduceEq, Int.reduceLT, Int.reduceLE, Int.reduceNeg, Int.reduceToNat, nv]
  · rintro m f H1 ⟨S1, M1, rfl, ht1, f0, f1, f2, h1, ok1, hF, hrun⟩
    unfold L30_1
    obtain ⟨ta, tc, htr⟩ := (h1.trace (by simp)).sl
    by_cases hlt : S1.trace.length < most
    · have hltZ : (S1.trace.length : Int) < (most : Int) := by omega
      simp (config := { implicitDefEqProofs := false, maxDischargeDepth := 6, maxSteps := 1000000 }) only [go_sem, ↓reduceIte, Nat.reduceLT, Nat.reduceLeDiff, Nat.reduceEqDiff, Nat.reduceAdd, Nat.reduceMul, Nat.reduceSub, Nat.reduceBEq, reduceCtorEq, Int.reduceEq, Int.reduceLT, Int.reduceLE, Int.reduceNeg, Int.reduceToNat, f0, f1, f2, h1.run, htr, goInt, nv, hltZ]
      refine CW_mono _ (ready_W h1 ok1.vs ok1.N) ?_
      rintro _ H2 ⟨v, rfl, hE2, hO2⟩
      obtain ⟨va, vc, rfl⟩ := hO2.sl
      have hlen : (rdy S1).length ≤ 65536 := Nat.le_trans (rdy_len S1) ok1.N
      by_cases hem : rdy S1 = []
      · have hz : ((rdy S1).length : Int) = 0 := by rw [hem]; rfl
        simp (config := { implicitDefEqProofs := false, maxDischargeDepth := 6, maxSteps := 1000000 }) only [go_sem, ↓reduceIte, Nat.reduceLT, Nat.reduceLeDiff, Nat.reduceEqDiff, Nat.reduceAdd, Nat.reduceMul, Nat.reduceSub, Nat.reduceBEq, reduceCtorEq, Int.reduceEq, Int.reduceLT, Int.reduceLE, Int.reduceNeg, Int.reduceToNat, f0, f1, f2, goInt, nv, hz]
        refine ⟨M1, ?_, hF.trans (Frm.ext hE2)⟩
        rw [← hrun]
        obtain ⟨k, hk⟩ : ∃ k, most - S1.trace.length = k + 1 := ⟨most - S1.trace.length - 1, by omega⟩
        rw [hk, runM, if_pos hem]
        exact h1.ext hE2
      · have hz : ¬ ((rdy S1).length : Int) = 0 := by
          intro e; apply hem; exact List.eq_nil_of_length_eq_zero (by omega)
        simp (config := { implicitDefEqProofs := false, maxDischargeDepth := 6, maxSteps := 1000000 }) only [go_sem, ↓reduceIte, Nat.reduceLT, Nat.reduceLeDiff, Nat.reduceEqDiff, Nat.reduceAdd, Nat.reduceMul, Nat.reduceSub, Nat.reduceBEq, reduceCtorEq, Int.reduceEq, Int.reduceLT, Int.reduceLE, Int.reduceNeg, Int.reduceToNat, f0, f1, f2, goInt, nv, hz]
        have h2 := h1.ext hE2
        have hF2 := hF.trans (Frm.ext (M := M1) hE2)
        have hp2 := hp.frm h.wf hF2
        refine CW_mono _ (next_W h2 hO2.rd hp2.1 hem hpos hlen (by omega)) ?_
        rintro _ _ ⟨rfl, rfl⟩
        simp (config := { implicitDefEqProofs := false, maxDischargeDepth := 6, maxSteps := 1000000 }) only [go_sem, ↓reduceIte, Nat.reduceLT, Nat.reduceLeDiff, Nat.reduceEqDiff, Nat.reduceAdd, Nat.reduceMul, Nat.reduceSub, Nat.reduceBEq, reduceCtorEq, Int.reduceEq, Int.reduceLT, Int.reduceLE, Int.reduceNeg, Int.reduceToNat, f0, f1, f2, goInt, nv]
        have hmem := nextP_mem (last := S1.last) (k := S1.trace.length) (picks := picks) hem
        generalize hni : nextP S1.last S1.trace.length (rdy S1) picks = i at hmem ⊢
        obtain ⟨hi, hh⟩ := mem_rdy.1 hmem
        obtain ⟨hat, hq, _⟩ := how_3 hh
        refine CW_mono _ (step_W h2 ⟨ok1.vs, ok1.ci, ok1.len, fun j => by have := ok1.cb j; omega, fun j => by have := ok1.qb j; omega⟩ hi hat (by omega) hq) ?_
        rintro _ H3 ⟨rfl, M3, h3, hF3⟩
        have kt : (stepM S1 i).trace.length = S1.trace.length + 1 := by rw [(stepM_kp hi hat).trace]; simp [begS]
        simp (config := { implicitDefEqProofs := false, maxDischargeDepth := 6, maxSteps := 1000000 }) only [go_sem, ↓reduceIte, Nat.reduceLT, Nat.reduceLeDiff, Nat.reduceEqDiff, Nat.reduceAdd, Nat.reduceMul, Nat.reduceSub, Nat.reduceBEq, reduceCtorEq, Int.reduceEq, Int.reduceLT, Int.reduceLE, Int.reduceNeg, Int.reduceToNat, f0, f1, f2, goInt, nv]
        refine ⟨most - (stepM S1 i).trace.length, by omega, stepM S1 i, M3, rfl, by omega, ?_, ?_, ?_, h3, ok1.step hi hat, hF2.trans hF3, ?_⟩
        · simp (config := { implicitDefEqProofs := false, maxDischargeDepth := 6, maxSteps := 1000000 }) only [go_sem, ↓reduceIte, Nat.reduceLT, Nat.reduceLeDiff, Nat.reduceEqDiff, Nat.reduceAdd, Nat.reduceMul, Nat.reduceSub, Nat.reduceBEq, reduceCtorEq, Int.reduceEq, Int.reduceLT, Int.reduceLE, Int.reduceNeg, Int.reduceToNat, f0, f1, f2]
        · simp (config := { implicitDefEqProofs := false, maxDischargeDepth := 6, maxSteps := 1000000 }) only [go_sem, ↓reduceIte, Nat.reduceLT, Nat.reduceLeDiff, Nat.reduceEqDiff, Nat.reduceAdd, Nat.reduceMul, Nat.reduceSub, Nat.reduceBEq, reduceCtorEq, Int.reduceEq, Int.reduceLT, Int.reduceLE, Int.reduceNeg, Int.reduceToNat, f0, f1, f2]
        · simp (config := { implicitDefEqProofs := false, maxDischargeDepth := 6, maxSteps := 1000000 }) only [go_sem, ↓reduceIte, Nat.reduceLT, Nat.reduceLeDiff, Nat.reduceEqDiff, Nat.reduceAdd, Nat.reduceMul, Nat.reduceSub, Nat.reduceBEq, reduceCtorEq, Int.reduceEq, Int.reduceLT, Int.reduceLE, Int.reduceNeg, Int.reduceToNat, f0, f1, f2, nv]
        · rw [← hrun]
          obtain ⟨k, hk⟩ : ∃ k, most - S1.trace.length = k + 1 := ⟨most - S1.trace.length - 1, by omega⟩
          rw [hk, runM, if_neg hem, hni, kt]
          congr 1
          omega
    · have hltZ : ¬ (S1.trace.length : Int) < (most : Int) := by omega
      simp (config := { implicitDefEqProofs := false, maxDischargeDepth := 6, maxSteps := 1000000 }) only [go_sem, ↓reduceIte, Nat.reduceLT, Nat.reduceLeDiff, Nat.reduceEqDiff, Nat.reduceAdd, Nat.reduceMul, Nat.reduceSub, Nat.reduceBEq, reduceCtorEq, Int.reduceEq, Int.reduceLT, Int.reduceLE, Int.reduceNeg, Int.reduceToNat, f0, f1, f2, h1.run, htr, goInt, nv, hltZ]
      refine ⟨M1, ?_, hF⟩
      rw [← hrun, show most - S1.trace.length = 0 from by omega]
      exact h1
end Go.Am.T
