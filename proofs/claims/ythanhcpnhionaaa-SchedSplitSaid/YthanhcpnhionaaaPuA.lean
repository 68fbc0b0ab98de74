/- The scheduler's model: a run that is bounded, one step by its kind, what may be asked for. Conditions: those of each theorem. -/
import Derived.Test.YthanhcpnhionaaaSdN
set_option linter.all false
set_option linter.unusedSimpArgs false
set_option linter.unusedVariables false
namespace Go.Am.T
open Go Go.Am Go.Proofs.Ythanhcpnhionaaa Go.Proofs

theorem run_inv {I : Sx → Prop} {m : Sx → Nat} (step : ∀ S i, I S → i < S.N → howS S i = 3 → I (stepM S i) ∧ m (stepM S i) < m S) :
    ∀ k S (picks : List Int), I S → m S ≤ k → I (runM k S picks) ∧ rdy (runM k S picks) = []
  | 0, S, picks, h, hk => by
    refine ⟨h, ?_⟩
    show rdy S = []
    cases e : rdy S with
    | nil => rfl
    | cons i l =>
      have hi : i ∈ rdy S := by rw [e]; exact List.mem_cons_self
      obtain ⟨h1, h2⟩ := mem_rdy.1 hi
      have := (step S i h h1 h2).2
      omega
  | k + 1, S, picks, h, hk => by
    unfold runM
    by_cases e : rdy S = []
    · simp only [e]; exact ⟨h, e⟩
    · have hm := nextP_mem (last := S.last) (k := S.trace.length) (picks := picks) e
      obtain ⟨h1, h2⟩ := mem_rdy.1 hm
      obtain ⟨h3, h4⟩ := step S _ h h1 h2
      simp only [e, if_false]
      exact run_inv step k _ picks h3 (by omega)

theorem rdy_nil {S : Sx} (h : rdy S = []) {i : Nat} (hi : i < S.N) : howS S i ≠ 3 := fun e => by
  have := mem_rdy.2 ⟨hi, e⟩
  rw [h] at this; cases this

def sumN (f : Nat → Nat) : Nat → Nat
  | 0 => 0
  | n + 1 => sumN f n + f n
theorem sumN_congr {f g : Nat → Nat} : ∀ {n : Nat}, (∀ i, i < n → f i = g i) → sumN f n = sumN g n
  | 0, _ => rfl
  | n + 1, h => by
    rw [sumN, sumN, sumN_congr (fun i hi => h i (by omega)), h n (by omega)]
theorem sumN_upd {f g : Nat → Nat} {i : Nat} (hg : ∀ j, j ≠ i → g j = f j) : ∀ {n : Nat}, i < n → sumN g n + f i = sumN f n + g i
  | 0, h => by cases h
  | n + 1, h => by
    rw [sumN, sumN]
    by_cases e : i = n
    · subst e
      rw [sumN_congr (f := g) (g := f) (fun j hj => hg j (by omega))]; omega
    · have := sumN_upd (n := n) hg (by omega)
      rw [hg n (by omega)]; omega
theorem sumN_le {f g : Nat → Nat} : ∀ {n : Nat}, (∀ i, i < n → f i ≤ g i) → sumN f n ≤ sumN g n
  | 0, _ => Nat.le_refl _
  | n + 1, h => by
    have := sumN_le (n := n) fun i hi => h i (Nat.lt_succ_of_lt hi)
    have := h n (Nat.lt_succ_self n)
    rw [sumN, sumN]; omega
theorem sumN_const {c : Nat} : ∀ {n : Nat}, sumN (fun _ => c) n = c * n
  | 0 => rfl
  | n + 1 => by rw [sumN, sumN_const, Nat.mul_succ]

/- how a task stands, by its act -/
theorem how_at {S : Sx} {i : Nat} {a : Act} (hd : (S.tk i).died = false) (ha : (S.tk i).acts[(S.tk i).at_]? = some a) :
    howS S i = if a.k = 1 ∧ 0 ≤ S.locks a.a.toNat ∨ a.k = 3 ∧ (S.tk i).wait = 2 ∧ 0 ≤ S.locks a.b.toNat then 4
    else if a.k = 3 ∧ (S.tk i).wait = 1 then 5
    else if a.k = 6 ∧ S.room ≤ (S.queues a.a.toNat).length then 6
    else if a.k = 7 ∧ (S.queues a.a.toNat).length = 0 then 7 else 3 := by
  unfold howS howP
  have e : (tkV .nilIface (S.tk i)).at_.toNat = (S.tk i).at_ := by simp [tkV]
  have e2 : (tkV .nilIface (S.tk i)).died = (S.tk i).died := rfl
  have e3 : (tkV .nilIface (S.tk i)).wait = (S.tk i).wait := rfl
  rw [e, e2, e3, hd, ha]
  simp only [Bool.false_eq_true, if_false]
theorem how_done {S : Sx} {i : Nat} (hd : (S.tk i).died = false) (ha : (S.tk i).acts.length ≤ (S.tk i).at_) : howS S i = 1 := by
  unfold howS howP
  have e : (tkV .nilIface (S.tk i)).at_.toNat = (S.tk i).at_ := by simp [tkV]
  have e2 : (tkV .nilIface (S.tk i)).died = (S.tk i).died := rfl
  rw [e, e2, hd, List.getElem?_eq_none ha]
  simp
theorem how_died {S : Sx} {i : Nat} (hd : (S.tk i).died = true) : howS S i = 2 := by
  unfold howS howP
  have e2 : (tkV .nilIface (S.tk i)).died = (S.tk i).died := rfl
  rw [e2, hd, if_pos rfl]

/- one step, by the act's kind -/
def nx (S : Sx) (i : Nat) : Nat → Tk := upd S.tk i { S.tk i with at_ := (S.tk i).at_ + 1 }
section
variable {S : Sx} {i : Nat} {a : Act} (ha : (S.tk i).acts[(S.tk i).at_]? = some a)
include ha
theorem stp1 (hk : a.k = 1) : stepM S i = { S with tk := nx S i, locks := upd S.locks a.a.toNat i, trace := S.trace ++ [(i, (S.tk i).at_)], last := i } := by
  unfold stepM; rw [ha]; simp [doA, hk, adv, setTk, begS, nx]
theorem stp2 (hk : a.k = 2) (hl : S.locks a.a.toNat = i) : stepM S i = { S with tk := nx S i, locks := upd S.locks a.a.toNat (-1), trace := S.trace ++ [(i, (S.tk i).at_)], last := i } := by
  unfold stepM; rw [ha]; simp [doA, hk, adv, setTk, begS, nx, hl]
theorem stp8 (hk : a.k = 8) : stepM S i = { S with tk := nx S i, regs := upd S.regs a.a.toNat (IntKind.i64.wrap (S.regs a.a.toNat + a.n)), trace := S.trace ++ [(i, (S.tk i).at_)], last := i } := by
  unfold stepM; rw [ha]; simp [doA, hk, adv, setTk, begS, nx]
theorem stp9 (hk : a.k = 9) : stepM S i = { S with tk := nx S i, regs := upd S.regs a.b.toNat (S.regs a.a.toNat), trace := S.trace ++ [(i, (S.tk i).at_)], last := i } := by
  unfold stepM; rw [ha]; simp [doA, hk, adv, setTk, begS, nx]
theorem stp11 (hk : a.k = 11) : stepM S i = { S with tk := nx S i, trace := S.trace ++ [(i, (S.tk i).at_)], last := i } := by
  unfold stepM; rw [ha]; simp [doA, hk, adv, setTk, begS, nx]
theorem stp6 (hk : a.k = 6) : stepM S i = { S with tk := nx S i, queues := upd S.queues a.a.toNat (S.queues a.a.toNat ++ [a.n]), trace := S.trace ++ [(i, (S.tk i).at_)], last := i } := by
  unfold stepM; rw [ha]; simp [doA, hk, adv, setTk, begS, nx]
theorem stp7 (hk : a.k = 7) : stepM S i = { S with tk := nx S i, regs := upd S.regs a.b.toNat ((S.queues a.a.toNat).headD 0), queues := upd S.queues a.a.toNat (S.queues a.a.toNat).tail, trace := S.trace ++ [(i, (S.tk i).at_)], last := i } := by
  unfold stepM; rw [ha]; simp [doA, hk, adv, setTk, begS, nx]
theorem stp13 (hk : a.k = 13) : stepM S i = { S with tk := upd S.tk i { S.tk i with guard := a.n, at_ := (S.tk i).at_ + 1 }, trace := S.trace ++ [(i, (S.tk i).at_)], last := i } := by
  unfold stepM; rw [ha]; simp [doA, hk, adv, setTk, begS]
  funext j; unfold upd; by_cases e : j = i <;> simp [e]
end

theorem asked_of {ts : List (List Act)} {room most : Int} {picks : List Int} (h1 : ts.length ≤ 16) (h2 : ∀ l ∈ ts, l.length ≤ 256) (h3 : ∀ l ∈ ts, ∀ a ∈ l, oddA a = false ∧ rightP a l.length = true)
    (r1 : 1 ≤ room) (r2 : room ≤ 16) (m1 : 0 ≤ most) (m2 : most ≤ 65536) (hp : picks.length ≤ 65536) (hn : ∀ p ∈ picks, 0 ≤ p) : askedP ts room picks most = 0 := by
  have hm : mayP ts = 0 := by
    unfold mayP
    rw [if_neg (by omega), if_neg, if_neg, if_neg]
    · simp only [List.any_eq_true, not_exists, not_and, wrL]
      intro l hl a ha hr
      rw [wrA, (h3 l hl a ha).2] at hr; cases hr
    · simp only [List.any_eq_true, not_exists, not_and, oddL]
      intro l hl a ha hr
      rw [(h3 l hl a ha).1] at hr; cases hr
    · simp only [List.any_eq_true, not_exists, not_and, decide_eq_true_eq]
      intro l hl
      have := h2 l hl; omega
  unfold askedP
  rw [if_neg (by rw [hm]; simp), if_neg (by omega), if_neg (by omega), if_neg (by omega), if_neg (by omega), if_neg (by omega), if_neg]
  simp only [List.any_eq_true, not_exists, not_and, decide_eq_true_eq]
  intro p hpm
  have := hn p hpm; omega

def nxt (S : Sx) (picks : List Int) : Nat := nextP S.last S.trace.length (rdy S) picks
theorem runM_succ (k : Nat) (S : Sx) (picks : List Int) : runM (k + 1) S picks = if rdy S = [] then S else runM k (stepM S (nxt S picks)) picks := rfl
theorem runM_stuck {S : Sx} (h : rdy S = []) : ∀ (k : Nat) (picks : List Int), runM k S picks = S
  | 0, _ => rfl
  | k + 1, _ => by rw [runM_succ, if_pos h]
theorem step_tr {S : Sx} {picks : List Int} (h : rdy S ≠ []) : (stepM S (nxt S picks)).trace = S.trace ++ [(nxt S picks, (S.tk (nxt S picks)).at_)] := by
  obtain ⟨h1, h2⟩ := mem_rdy.1 (nextP_mem (last := S.last) (k := S.trace.length) (picks := picks) h)
  obtain ⟨hat, _⟩ := how_3 h2
  exact (stepM_kp h1 hat).trace
theorem runM_add : ∀ (a b : Nat) (S : Sx) (picks : List Int), runM (a + b) S picks = runM b (runM a S picks) picks
  | 0, b, S, picks => by rw [Nat.zero_add]; rfl
  | a + 1, b, S, picks => by
    rw [show a + 1 + b = (a + b) + 1 by omega, runM_succ, runM_succ]
    by_cases h : rdy S = []
    · rw [if_pos h, if_pos h, runM_stuck h]
    · rw [if_neg h, if_neg h, runM_add]
theorem runM_tr : ∀ (k : Nat) (S : Sx) (picks : List Int), ∃ t, (runM k S picks).trace = S.trace ++ t ∧ t.length ≤ k ∧ (t.length < k → rdy (runM k S picks) = []) ∧ (t = [] → runM k S picks = S)
  | 0, S, picks => ⟨[], by simp [runM], by simp, by simp, fun _ => rfl⟩
  | k + 1, S, picks => by
    rw [runM_succ]
    by_cases h : rdy S = []
    · rw [if_pos h]; exact ⟨[], by simp, by simp, fun _ => h, fun _ => rfl⟩
    · rw [if_neg h]
      obtain ⟨t, h1, h2, h3, _⟩ := runM_tr k (stepM S (nxt S picks)) picks
      refine ⟨(nxt S picks, (S.tk (nxt S picks)).at_) :: t, by rw [h1, step_tr h]; simp, by simp; omega, fun h4 => h3 (by simp at h4; omega), fun h => by cases h⟩
theorem runM_congr : ∀ (k : Nat) (S : Sx) {p q : List Int}, (∀ j, j < S.trace.length + k → p[j]? = q[j]?) → runM k S p = runM k S q
  | 0, _, _, _, _ => rfl
  | k + 1, S, p, q, h => by
    rw [runM_succ, runM_succ]
    by_cases hr : rdy S = []
    · rw [if_pos hr, if_pos hr]
    · rw [if_neg hr, if_neg hr]
      have e : nxt S p = nxt S q := by unfold nxt nextP; rw [h S.trace.length (by omega)]
      rw [e]
      refine runM_congr k _ fun j hj => h j ?_
      rw [step_tr hr] at hj
      simp at hj; omega

section
variable {ts : List (List Act)} {room : Int} {picks : List Int} {most : Nat}
/- so many steps, not more -/
theorem cut_tr {cut : Nat} (h : cut ≤ (runM most (S0 ts room) picks).trace.length) : (runM cut (S0 ts room) picks).trace = (runM most (S0 ts room) picks).trace.take cut ∧ (runM cut (S0 ts room) picks).trace.length = cut := by
  have hl := runM_len most (S := S0 ts room) picks
  have h0 : (S0 ts room).trace = [] := rfl
  rw [h0] at hl
  simp only [List.length_nil, Nat.zero_add] at hl
  obtain ⟨t1, e1, l1, s1, _⟩ := runM_tr cut (S0 ts room) picks
  rw [h0, List.nil_append] at e1
  have e2 : runM most (S0 ts room) picks = runM (most - cut) (runM cut (S0 ts room) picks) picks := by rw [← runM_add]; congr 1; omega
  obtain ⟨t2, e3, _, _, _⟩ := runM_tr (most - cut) (runM cut (S0 ts room) picks) picks
  rw [← e2] at e3
  have hc : (runM cut (S0 ts room) picks).trace.length = cut := by
    rw [e1]
    by_cases c : t1.length < cut
    · have hr := s1 c
      rw [runM_stuck hr] at e2
      rw [e2, e1] at h; omega
    · omega
  refine ⟨?_, hc⟩
  rw [e3, List.take_append_of_le_length (by omega), List.take_of_length_le (by omega)]

/- who was picked was ready -/
theorem pick_at {i : Nat} (hi : i < (runM most (S0 ts room) picks).trace.length) (hp : i < picks.length) :
    rdy (runM i (S0 ts room) (picks.take i)) ≠ [] ∧ ((runM most (S0 ts room) picks).trace[i]).1 = (rdy (runM i (S0 ts room) (picks.take i))).getD ((picks[i]).toNat % (rdy (runM i (S0 ts room) (picks.take i))).length) 0 := by
  have hl := runM_len most (S := S0 ts room) picks
  have h0 : (S0 ts room).trace = [] := rfl
  rw [h0] at hl
  simp only [List.length_nil, Nat.zero_add] at hl
  have hcg : runM i (S0 ts room) (picks.take i) = runM i (S0 ts room) picks := by
    refine runM_congr i _ fun j hj => ?_
    rw [h0] at hj
    simp only [List.length_nil, Nat.zero_add] at hj
    rw [List.getElem?_take, if_pos hj]
  rw [hcg]
  obtain ⟨c1, c2⟩ := cut_tr (ts := ts) (room := room) (picks := picks) (most := most) (cut := i) (by omega)
  have e2 : runM most (S0 ts room) picks = runM (most - i) (runM i (S0 ts room) picks) picks := by rw [← runM_add]; congr 1; omega
  generalize hS : runM i (S0 ts room) picks = S at *
  have hr : rdy S ≠ [] := by
    intro e
    rw [runM_stuck e] at e2
    rw [e2, c2] at hi; omega
  refine ⟨hr, ?_⟩
  obtain ⟨m, hm⟩ : ∃ m, most - i = m + 1 := ⟨most - i - 1, by omega⟩
  rw [hm, runM_succ, if_neg hr] at e2
  obtain ⟨t, e3, _, _, _⟩ := runM_tr m (stepM S (nxt S picks)) picks
  rw [← e2, step_tr hr] at e3
  have e4 : (runM most (S0 ts room) picks).trace[i]? = some (nxt S picks, (S.tk (nxt S picks)).at_) := by
    rw [e3, List.append_assoc, List.getElem?_append_right (by omega), c2, Nat.sub_self]; rfl
  rw [List.getElem?_eq_getElem hi] at e4
  rw [Option.some.inj e4]
  show nxt S picks = _
  unfold nxt nextP
  rw [c2, List.getElem?_eq_getElem hp]

/- where nobody is ready no further pick changes anything -/
theorem more_eq {more : List Int} (h1 : (runM most (S0 ts room) picks).trace.length < most) (h2 : (runM most (S0 ts room) picks).trace.length ≤ picks.length) : runM most (S0 ts room) (picks ++ more) = runM most (S0 ts room) picks := by
  have h0 : (S0 ts room).trace = [] := rfl
  generalize hst : (runM most (S0 ts room) picks).trace.length = st at h1 h2
  obtain ⟨_, c2⟩ := cut_tr (ts := ts) (room := room) (picks := picks) (most := most) (cut := st) (by omega)
  have hcg : runM st (S0 ts room) (picks ++ more) = runM st (S0 ts room) picks := by
    refine runM_congr st _ fun j hj => ?_
    rw [h0] at hj
    simp only [List.length_nil, Nat.zero_add] at hj
    rw [List.getElem?_append_left (by omega)]
  have e1 : runM most (S0 ts room) picks = runM (most - st) (runM st (S0 ts room) picks) picks := by rw [← runM_add]; congr 1; omega
  have e2 : runM most (S0 ts room) (picks ++ more) = runM (most - st) (runM st (S0 ts room) (picks ++ more)) (picks ++ more) := by rw [← runM_add]; congr 1; omega
  rw [hcg] at e2
  generalize runM st (S0 ts room) picks = S at *
  obtain ⟨t, e3, _, e5, e6⟩ := runM_tr (most - st) S picks
  rw [← e1] at e3 e5 e6
  have ht : t = [] := by
    have := congrArg List.length e3
    rw [hst, List.length_append, c2] at this
    exact List.eq_nil_of_length_eq_zero (by omega)
  have hS := e6 ht
  have hr : rdy S = [] := by
    have := e5 (by rw [ht]; simp; omega)
    rw [hS] at this; exact this
  rw [e2, runM_stuck hr, hS]
end

theorem rdy_lt {S : Sx} {i : Nat} (h : i < (rdy S).length) : (rdy S)[i] < S.N := (mem_rdy.1 (List.getElem_mem h)).1
end Go.Am.T
