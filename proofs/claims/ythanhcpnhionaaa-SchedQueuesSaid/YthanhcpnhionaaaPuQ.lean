/- The law SchedQueues in the scheduler's model: whatever the order, all is put and taken. Conditions: those of each theorem. -/
import Derived.Test.YthanhcpnhionaaaPuL
import Derived.Test.YthanhcpnhionaaaSdR
set_option linter.all false
set_option linter.unusedSimpArgs false
set_option linter.unusedVariables false
namespace Go.Am.T
open Go Go.Am Go.Proofs.Ythanhcpnhionaaa Go.Proofs

theorem putL_at : ∀ {n a : Nat}, a < n → (putL n)[a]? = some ⟨6, 0, 0, a⟩
  | 0, _, h => by cases h
  | n + 1, a, h => by
    rw [putL]
    by_cases e : a = n
    · subst e; rw [List.getElem?_append_right (by rw [putL_len]; omega), putL_len, Nat.sub_self]; rfl
    · rw [List.getElem?_append_left (by rw [putL_len]; omega)]; exact putL_at (by omega)
theorem takeL_at : ∀ {n a : Nat}, a < n → (takeL n)[a]? = some ⟨7, 0, 3, 0⟩
  | 0, _, h => by cases h
  | n + 1, a, h => by
    rw [takeL]
    by_cases e : a = n
    · subst e; rw [List.getElem?_append_right (by rw [takeL_len]; omega), takeL_len, Nat.sub_self]; rfl
    · rw [List.getElem?_append_left (by rw [takeL_len]; omega)]; exact takeL_at (by omega)
theorem putL_mem : ∀ {n : Nat} {x : Act}, x ∈ putL n → ∃ a : Nat, x = ⟨6, 0, 0, a⟩
  | 0, _, h => by cases h
  | n + 1, x, h => by
    rcases List.mem_append.1 h with h | h
    · exact putL_mem h
    · exact ⟨n, by simpa using h⟩
theorem takeL_mem : ∀ {n : Nat} {x : Act}, x ∈ takeL n → x = ⟨7, 0, 3, 0⟩
  | 0, _, h => by cases h
  | n + 1, x, h => by
    rcases List.mem_append.1 h with h | h
    · exact takeL_mem h
    · simpa using h

def qL (b : Nat) : Nat → List Int
  | 0 => []
  | m + 1 => (b : Int) :: qL (b + 1) m
theorem qL_len : ∀ (m b : Nat), (qL b m).length = m
  | 0, _ => rfl
  | m + 1, b => by rw [qL, List.length_cons, qL_len]
theorem qL_snoc : ∀ (m b : Nat), qL b m ++ [((b + m : Nat) : Int)] = qL b (m + 1)
  | 0, _ => rfl
  | m + 1, b => by
    rw [qL, List.cons_append, show b + (m + 1) = (b + 1) + m by omega, qL_snoc m (b + 1)]; rfl

structure QI (n room : Nat) (S : Sx) (a b : Nat) : Prop where
  N : S.N = 2
  rm : S.room = room
  acts0 : (S.tk 0).acts = putL n
  acts1 : (S.tk 1).acts = takeL n
  died0 : (S.tk 0).died = false
  died1 : (S.tk 1).died = false
  at0 : (S.tk 0).at_ = a
  at1 : (S.tk 1).at_ = b
  le : b ≤ a
  ln : a ≤ n
  lr : a ≤ b + room
  q : S.queues 0 = qL b (a - b)
  reg : b = 0 ∨ S.regs 3 = (b : Int) - 1
  len : S.trace.length = a + b
  bl : bal S.trace = (a : Int) - b
  pre : ∀ k, k ≤ a + b → 0 ≤ Go.Am.T.bal (S.trace.take k) ∧ Go.Am.T.bal (S.trace.take k) ≤ room

theorem QI.step {n room : Nat} {S : Sx} {a b : Nat} (h : QI n room S a b) {i : Nat} (hi : i < S.N) (h3 : howS S i = 3) : (∃ a' b', QI n room (stepM S i) a' b') ∧ muS (stepM S i) < muS S := by
  obtain ⟨hat, _, _⟩ := how_3 h3
  have hpre : ∀ (p : Nat × Nat) (z : Int), Go.Am.T.bal (S.trace ++ [p]) = z → 0 ≤ z → z ≤ room → ∀ k, k ≤ a + b + 1 → 0 ≤ Go.Am.T.bal ((S.trace ++ [p]).take k) ∧ Go.Am.T.bal ((S.trace ++ [p]).take k) ≤ room := by
    intro p z hz z0 z1 k hk
    by_cases e : k ≤ a + b
    · rw [List.take_append_of_le_length (by rw [h.len]; exact e)]; exact h.pre k e
    · rw [List.take_of_length_le (by rw [List.length_append, h.len]; simp; omega), hz]; exact ⟨z0, z1⟩
  have hN := h.N
  have hle := h.le
  have hln := h.ln
  have hlr := h.lr
  have hbal := h.bl
  match i, hN ▸ hi with
  | 0, _ =>
    have han : a < n := by rw [h.at0, h.acts0, putL_len] at hat; exact hat
    have hact : (S.tk 0).acts[(S.tk 0).at_]? = some ⟨6, 0, 0, a⟩ := by rw [h.acts0, h.at0]; exact putL_at han
    have hroom : a - b < room := by
      rw [how_at h.died0 hact, if_neg (by simp), if_neg (by simp)] at h3
      by_cases c : S.room ≤ ((S.queues 0).length : Nat)
      · rw [if_pos ⟨rfl, c⟩] at h3; cases h3
      · rw [h.q, qL_len, h.rm] at c; omega
    have hs := stp6 hact rfl
    rw [hs]
    have hb2 : Go.Am.T.bal (S.trace ++ [(0, (S.tk 0).at_)]) = ((a + 1 : Nat) : Int) - b := by rw [bal_snoc, hbal, if_pos rfl]; omega
    refine ⟨⟨a + 1, b, ⟨hN, h.rm, ?_, ?_, ?_, ?_, ?_, ?_, by omega, by omega, by omega, ?_, h.reg, ?_, hb2, ?_⟩⟩, muS_nx rfl rfl hi hat⟩
    · show (nx S 0 0).acts = _; rw [nx, upd_same]; exact h.acts0
    · show (nx S 0 1).acts = _; rw [nx, upd_ne (by omega)]; exact h.acts1
    · show (nx S 0 0).died = _; rw [nx, upd_same]; exact h.died0
    · show (nx S 0 1).died = _; rw [nx, upd_ne (by omega)]; exact h.died1
    · show (nx S 0 0).at_ = _; rw [nx, upd_same]; show (S.tk 0).at_ + 1 = _; rw [h.at0]
    · show (nx S 0 1).at_ = _; rw [nx, upd_ne (by omega)]; exact h.at1
    · show upd S.queues 0 (S.queues 0 ++ [(a : Int)]) 0 = _
      rw [upd_same, h.q, show a + 1 - b = (a - b) + 1 by omega, ← qL_snoc, show b + (a - b) = a by omega]
    · show (S.trace ++ [_]).length = _
      rw [List.length_append, h.len]; simp; omega
    · intro k hk
      exact hpre _ _ hb2 (by omega) (by omega) k (by omega)
  | 1, _ =>
    have hbn : b < n := by rw [h.at1, h.acts1, takeL_len] at hat; exact hat
    have hact : (S.tk 1).acts[(S.tk 1).at_]? = some ⟨7, 0, 3, 0⟩ := by rw [h.acts1, h.at1]; exact takeL_at hbn
    have hba : b < a := by
      rw [how_at h.died1 hact, if_neg (by simp), if_neg (by simp), if_neg (by simp)] at h3
      by_cases c : (S.queues 0).length = 0
      · rw [if_pos ⟨rfl, c⟩] at h3; cases h3
      · rw [h.q, qL_len] at c; omega
    have hq : S.queues 0 = (b : Int) :: qL (b + 1) (a - (b + 1)) := by rw [h.q, show a - b = (a - (b + 1)) + 1 by omega]; rfl
    have hs := stp7 hact rfl
    rw [hs]
    have hb2 : Go.Am.T.bal (S.trace ++ [(1, (S.tk 1).at_)]) = (a : Int) - (b + 1 : Nat) := by rw [bal_snoc, hbal, if_neg (by simp)]; omega
    refine ⟨⟨a, b + 1, ⟨hN, h.rm, ?_, ?_, ?_, ?_, ?_, ?_, by omega, by omega, by omega, ?_, .inr ?_, ?_, hb2, ?_⟩⟩, muS_nx rfl rfl hi hat⟩
    · show (nx S 1 0).acts = _; rw [nx, upd_ne (by omega)]; exact h.acts0
    · show (nx S 1 1).acts = _; rw [nx, upd_same]; exact h.acts1
    · show (nx S 1 0).died = _; rw [nx, upd_ne (by omega)]; exact h.died0
    · show (nx S 1 1).died = _; rw [nx, upd_same]; exact h.died1
    · show (nx S 1 0).at_ = _; rw [nx, upd_ne (by omega)]; exact h.at0
    · show (nx S 1 1).at_ = _; rw [nx, upd_same]; show (S.tk 1).at_ + 1 = _; rw [h.at1]
    · show upd S.queues 0 (S.queues 0).tail 0 = _
      rw [upd_same, hq]; rfl
    · show upd S.regs 3 ((S.queues 0).headD 0) 3 = _
      rw [upd_same, hq]; show (b : Int) = _; omega
    · show (S.trace ++ [_]).length = _
      rw [List.length_append, h.len]; simp; omega
    · intro k hk
      exact hpre _ _ hb2 (by omega) (by omega) k (by omega)

theorem queues_pure {n room : Nat} {picks : List Int} (n1 : 1 ≤ n) (n7 : n ≤ 100) (t1 : 1 ≤ room) (t8 : room ≤ 16) (hp : picks.length ≤ 3000) (hn : nonneg picks) : QueuesOk n room picks := by
  have hI0 : QI n room (S0 [putL n, takeL n] room) 0 0 := by
    refine ⟨rfl, rfl, rfl, rfl, rfl, rfl, rfl, rfl, Nat.le_refl _, by omega, by omega, rfl, .inl rfl, rfl, rfl, fun k hk => ?_⟩
    have e : (S0 [putL n, takeL n] room).trace.take k = [] := List.take_nil
    rw [e]; show (0 : Int) ≤ 0 ∧ (0 : Int) ≤ room; omega
  have hm : muS (S0 [putL n, takeL n] room) ≤ 65536 := by
    have e : muS (S0 [putL n, takeL n] room) = 0 + ((putL n).length - 0) + ((takeL n).length - 0) := rfl
    rw [e, putL_len, takeL_len]; omega
  obtain ⟨⟨a, b, hI⟩, hR⟩ := run_inv (I := fun S => ∃ a b, QI n room S a b) (m := muS) (fun S i ⟨a, b, h⟩ hi h3 => h.step hi h3) 65536 _ picks ⟨_, _, hI0⟩ hm
  generalize hS : runM 65536 (S0 [putL n, takeL n] room) picks = S at hI hR
  have hle := hI.le
  have hln := hI.ln
  have hlr := hI.lr
  have hN := hI.N
  have hab : b = a := by
    refine Classical.byContradiction fun e => rdy_nil hR (i := 1) (by omega) ?_
    have hact : (S.tk 1).acts[(S.tk 1).at_]? = some ⟨7, 0, 3, 0⟩ := by rw [hI.acts1, hI.at1]; exact takeL_at (by omega)
    rw [how_at hI.died1 hact, if_neg (by simp), if_neg (by simp), if_neg (by simp), if_neg]
    rintro ⟨_, h⟩
    have h : (S.queues 0).length = 0 := h
    rw [hI.q, qL_len] at h; omega
  have han : a = n := by
    refine Classical.byContradiction fun e => rdy_nil hR (i := 0) (by omega) ?_
    have hact : (S.tk 0).acts[(S.tk 0).at_]? = some ⟨6, 0, 0, a⟩ := by rw [hI.acts0, hI.at0]; exact putL_at (by omega)
    rw [how_at hI.died0 hact, if_neg (by simp), if_neg (by simp), if_neg, if_neg (by simp)]
    rintro ⟨_, h⟩
    have h : S.room ≤ ((S.queues 0).length : Nat) := h
    rw [hI.q, qL_len, hI.rm] at h; omega
  subst hab
  subst han
  refine ⟨?_, ?_, ?_, ?_, ?_, ?_⟩
  · refine asked_of (by simp) ?_ ?_ (by omega) (by omega) (by omega) (by omega) (by omega) hn
    · intro l hl
      simp only [List.mem_cons, List.not_mem_nil, or_false] at hl
      rcases hl with rfl | rfl
      · rw [putL_len]; omega
      · rw [takeL_len]; omega
    · intro l hl x hx
      simp only [List.mem_cons, List.not_mem_nil, or_false] at hl
      rcases hl with rfl | rfl
      · obtain ⟨a, rfl⟩ := putL_mem hx
        exact ⟨rfl, by simp [rightP, okP, restP, btw]⟩
      · obtain rfl := takeL_mem hx
        exact ⟨rfl, rfl⟩
  · rw [hS, hI.len]; omega
  · rw [hS]
    rcases hI.reg with h | h
    · omega
    · exact h
  · rw [hS]; exact how_done hI.died0 (by rw [hI.acts0, hI.at0, putL_len]; omega)
  · rw [hS]; exact how_done hI.died1 (by rw [hI.acts1, hI.at1, takeL_len]; omega)
  · intro k hk
    rw [hS]; exact hI.pre k (by omega)
end Go.Am.T
