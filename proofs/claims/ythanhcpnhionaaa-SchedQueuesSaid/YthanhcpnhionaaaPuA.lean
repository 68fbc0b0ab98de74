/- The scheduler's model: a run that is bounded, one step by its kind, what may be asked for. Conditions: those of each theorem. -/
import Derived.Test.YthanhcpnhionaaaSdN
set_option linter.all false
set_option linter.unusedSimpArgs false
set_option linter.unusedVariables false
namespace Go.Am.T
open Go Go.Am Go.Proofs.Ythanhcpnhionaaa Go.Proofs

theorem run_inv {I : Sx → Prop} {m : Sx → Nat} (step : ∀ S i, I S → i < S.N → howS S i = 3 → I (stepM S i) ∧ m (stepM S i) < m S) :
    ∀ k S (picks : List Int), I S → m S ≤ k → I (runM k S picks) ∧ rdy (runM k S picks) = []
  | 0, S, picks, h, hk => by
    refine ⟨h, ?_⟩
    show rdy S = []
    cases e : rdy S with
    | nil => rfl
    | cons i l =>
      have hi : i ∈ rdy S := by rw [e]; exact List.mem_cons_self
      obtain ⟨h1, h2⟩ := mem_rdy.1 hi
      have := (step S i h h1 h2).2
      omega
  | k + 1, S, picks, h, hk => by
    unfold runM
    by_cases e : rdy S = []
    · simp only [e]; exact ⟨h, e⟩
    · have hm := nextP_mem (last := S.last) (k := S.trace.length) (picks := picks) e
      obtain ⟨h1, h2⟩ := mem_rdy.1 hm
      obtain ⟨h3, h4⟩ := step S _ h h1 h2
      simp only [e, if_false]
      exact run_inv step k _ picks h3 (by omega)

theorem rdy_nil {S : Sx} (h : rdy S = []) {i : Nat} (hi : i < S.N) : howS S i ≠ 3 := fun e => by
  have := mem_rdy.2 ⟨hi, e⟩
  rw [h] at this; cases this

def sumN (f : Nat → Nat) : Nat → Nat
  | 0 => 0
  | n + 1 => sumN f n + f n
theorem sumN_congr {f g : Nat → Nat} : ∀ {n : Nat}, (∀ i, i < n → f i = g i) → sumN f n = sumN g n
  | 0, _ => rfl
  | n + 1, h => by
    rw [sumN, sumN, sumN_congr (fun i hi => h i (by omega)), h n (by omega)]
theorem sumN_upd {f g : Nat → Nat} {i : Nat} (hg : ∀ j, j ≠ i → g j = f j) : ∀ {n : Nat}, i < n → sumN g n + f i = sumN f n + g i
  | 0, h => by cases h
  | n + 1, h => by
    rw [sumN, sumN]
    by_cases e : i = n
    · subst e
      rw [sumN_congr (f := g) (g := f) (fun j hj => hg j (by omega))]; omega
    · have := sumN_upd (n := n) hg (by omega)
      rw [hg n (by omega)]; omega
theorem sumN_le {f g : Nat → Nat} : ∀ {n : Nat}, (∀ i, i < n → f i ≤ g i) → sumN f n ≤ sumN g n
  | 0, _ => Nat.le_refl _
  | n + 1, h => by
    have := sumN_le (n := n) fun i hi => h i (Nat.lt_succ_of_lt hi)
    have := h n (Nat.lt_succ_self n)
    rw [sumN, sumN]; omega
theorem sumN_const {c : Nat} : ∀ {n : Nat}, sumN (fun _ => c) n = c * n
  | 0 => rfl
  | n + 1 => by rw [sumN, sumN_const, Nat.mul_succ]

/- how a task stands, by its act -/
theorem how_at {S : Sx} {i : Nat} {a : Act} (hd : (S.tk i).died = false) (ha : (S.tk i).acts[(S.tk i).at_]? = some a) :
    howS S i = if a.k = 1 ∧ 0 ≤ S.locks a.a.toNat ∨ a.k = 3 ∧ (S.tk i).wait = 2 ∧ 0 ≤ S.locks a.b.toNat then 4
    else if a.k = 3 ∧ (S.tk i).wait = 1 then 5
    else if a.k = 6 ∧ S.room ≤ (S.queues a.a.toNat).length then 6
    else if a.k = 7 ∧ (S.queues a.a.toNat).length = 0 then 7 else 3 := by
  unfold howS howP
  have e : (tkV .nilIface (S.tk i)).at_.toNat = (S.tk i).at_ := by simp [tkV]
  have e2 : (tkV .nilIface (S.tk i)).died = (S.tk i).died := rfl
  have e3 : (tkV .nilIface (S.tk i)).wait = (S.tk i).wait := rfl
  rw [e, e2, e3, hd, ha]
  simp only [Bool.false_eq_true, if_false]
theorem how_done {S : Sx} {i : Nat} (hd : (S.tk i).died = false) (ha : (S.tk i).acts.length ≤ (S.tk i).at_) : howS S i = 1 := by
  unfold howS howP
  have e : (tkV .nilIface (S.tk i)).at_.toNat = (S.tk i).at_ := by simp [tkV]
  have e2 : (tkV .nilIface (S.tk i)).died = (S.tk i).died := rfl
  rw [e, e2, hd, List.getElem?_eq_none ha]
  simp
theorem how_died {S : Sx} {i : Nat} (hd : (S.tk i).died = true) : howS S i = 2 := by
  unfold howS howP
  have e2 : (tkV .nilIface (S.tk i)).died = (S.tk i).died := rfl
  rw [e2, hd, if_pos rfl]

/- one step, by the act's kind -/
def nx (S : Sx) (i : Nat) : Nat → Tk := upd S.tk i { S.tk i with at_ := (S.tk i).at_ + 1 }
section
variable {S : Sx} {i : Nat} {a : Act} (ha : (S.tk i).acts[(S.tk i).at_]? = some a)
include ha
theorem stp1 (hk : a.k = 1) : stepM S i = { S with tk := nx S i, locks := upd S.locks a.a.toNat i, trace := S.trace ++ [(i, (S.tk i).at_)], last := i } := by
  unfold stepM; rw [ha]; simp [doA, hk, adv, setTk, begS, nx]
theorem stp2 (hk : a.k = 2) (hl : S.locks a.a.toNat = i) : stepM S i = { S with tk := nx S i, locks := upd S.locks a.a.toNat (-1), trace := S.trace ++ [(i, (S.tk i).at_)], last := i } := by
  unfold stepM; rw [ha]; simp [doA, hk, adv, setTk, begS, nx, hl]
theorem stp8 (hk : a.k = 8) : stepM S i = { S with tk := nx S i, regs := upd S.regs a.a.toNat (IntKind.i64.wrap (S.regs a.a.toNat + a.n)), trace := S.trace ++ [(i, (S.tk i).at_)], last := i } := by
  unfold stepM; rw [ha]; simp [doA, hk, adv, setTk, begS, nx]
theorem stp9 (hk : a.k = 9) : stepM S i = { S with tk := nx S i, regs := upd S.regs a.b.toNat (S.regs a.a.toNat), trace := S.trace ++ [(i, (S.tk i).at_)], last := i } := by
  unfold stepM; rw [ha]; simp [doA, hk, adv, setTk, begS, nx]
theorem stp11 (hk : a.k = 11) : stepM S i = { S with tk := nx S i, trace := S.trace ++ [(i, (S.tk i).at_)], last := i } := by
  unfold stepM; rw [ha]; simp [doA, hk, adv, setTk, begS, nx]
theorem stp6 (hk : a.k = 6) : stepM S i = { S with tk := nx S i, queues := upd S.queues a.a.toNat (S.queues a.a.toNat ++ [a.n]), trace := S.trace ++ [(i, (S.tk i).at_)], last := i } := by
  unfold stepM; rw [ha]; simp [doA, hk, adv, setTk, begS, nx]
theorem stp7 (hk : a.k = 7) : stepM S i = { S with tk := nx S i, regs := upd S.regs a.b.toNat ((S.queues a.a.toNat).headD 0), queues := upd S.queues a.a.toNat (S.queues a.a.toNat).tail, trace := S.trace ++ [(i, (S.tk i).at_)], last := i } := by
  unfold stepM; rw [ha]; simp [doA, hk, adv, setTk, begS, nx]
theorem stp13 (hk : a.k = 13) : stepM S i = { S with tk := upd S.tk i { S.tk i with guard := a.n, at_ := (S.tk i).at_ + 1 }, trace := S.trace ++ [(i, (S.tk i).at_)], last := i } := by
  unfold stepM; rw [ha]; simp [doA, hk, adv, setTk, begS]
  funext j; unfold upd; by_cases e : j = i <;> simp [e]
end

theorem asked_of {ts : List (List Act)} {room most : Int} {picks : List Int} (h1 : ts.length ≤ 16) (h2 : ∀ l ∈ ts, l.length ≤ 256) (h3 : ∀ l ∈ ts, ∀ a ∈ l, oddA a = false ∧ rightP a l.length = true)
    (r1 : 1 ≤ room) (r2 : room ≤ 16) (m1 : 0 ≤ most) (m2 : most ≤ 65536) (hp : picks.length ≤ 65536) (hn : ∀ p ∈ picks, 0 ≤ p) : askedP ts room picks most = 0 := by
  have hm : mayP ts = 0 := by
    unfold mayP
    rw [if_neg (by omega), if_neg, if_neg, if_neg]
    · simp only [List.any_eq_true, not_exists, not_and, wrL]
      intro l hl a ha hr
      rw [wrA, (h3 l hl a ha).2] at hr; cases hr
    · simp only [List.any_eq_true, not_exists, not_and, oddL]
      intro l hl a ha hr
      rw [(h3 l hl a ha).1] at hr; cases hr
    · simp only [List.any_eq_true, not_exists, not_and, decide_eq_true_eq]
      intro l hl
      have := h2 l hl; omega
  unfold askedP
  rw [if_neg (by rw [hm]; simp), if_neg (by omega), if_neg (by omega), if_neg (by omega), if_neg (by omega), if_neg (by omega), if_neg]
  simp only [List.any_eq_true, not_exists, not_and, decide_eq_true_eq]
  intro p hpm
  have := hn p hpm; omega
end Go.Am.T
