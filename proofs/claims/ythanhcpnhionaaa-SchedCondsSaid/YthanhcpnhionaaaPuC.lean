/- The law SchedConds in the scheduler's model: whatever the order, all that wait go on. Conditions: those of each theorem. -/
import Derived.Test.YthanhcpnhionaaaPuL
import Derived.Test.YthanhcpnhionaaaSdS
set_option linter.all false
set_option linter.unusedSimpArgs false
set_option linter.unusedVariables false
namespace Go.Am.T
open Go Go.Am Go.Proofs.Ythanhcpnhionaaa Go.Proofs

theorem run_invM {I : Nat → Sx → Prop} (step : ∀ m S i, I m S → i < S.N → howS S i = 3 → ∃ m', m' < m ∧ I m' (stepM S i)) :
    ∀ k S m (picks : List Int), I m S → m ≤ k → (∃ m', I m' (runM k S picks)) ∧ rdy (runM k S picks) = []
  | 0, S, m, picks, h, hk => by
    refine ⟨⟨m, h⟩, ?_⟩
    show rdy S = []
    cases e : rdy S with
    | nil => rfl
    | cons i l =>
      have hi : i ∈ rdy S := by rw [e]; exact List.mem_cons_self
      obtain ⟨h1, h2⟩ := mem_rdy.1 hi
      obtain ⟨m', h3, _⟩ := step m S i h h1 h2
      omega
  | k + 1, S, m, picks, h, hk => by
    unfold runM
    by_cases e : rdy S = []
    · simp only [e]; exact ⟨⟨m, h⟩, e⟩
    · have hm := nextP_mem (last := S.last) (k := S.trace.length) (picks := picks) e
      obtain ⟨h1, h2⟩ := mem_rdy.1 hm
      obtain ⟨m', h3, h4⟩ := step m S _ h h1 h2
      simp only [e, if_false]
      exact run_invM step k _ m' picks h4 (by omega)

theorem wakeAll_get (l : List Nat) : ∀ (S : Sx) (j : Nat), (wakeAll S l).tk j = if j ∈ l then { S.tk j with wait := 2 } else S.tk j := by
  induction l with
  | nil => intro S j; simp [wakeAll]
  | cons i l ih =>
    intro S j
    rw [wakeAll, ih]
    by_cases e : j = i
    · subst e
      simp only [setTk, upd_same, List.mem_cons, true_or, if_true]
      split <;> rfl
    · simp only [setTk, upd_ne e, List.mem_cons, e, false_or]

section
variable {S : Sx} {i : Nat} {a : Act} (ha : (S.tk i).acts[(S.tk i).at_]? = some a)
include ha
theorem stp3a (hk : a.k = 3) (hw : (S.tk i).wait = 0) (hl : S.locks a.b.toNat = i) :
    stepM S i = { S with tk := upd S.tk i { S.tk i with wait := 1 }, locks := upd S.locks a.b.toNat (-1), conds := upd S.conds a.a.toNat (S.conds a.a.toNat ++ [i]), trace := S.trace ++ [(i, (S.tk i).at_)], last := i } := by
  unfold stepM; rw [ha]; simp [doA, hk, begS, hw, hl, waitS0, setTk]
theorem stp3b (hk : a.k = 3) (hw : (S.tk i).wait ≠ 0) :
    stepM S i = { S with tk := upd S.tk i { S.tk i with wait := 0, at_ := (S.tk i).at_ + 1 }, locks := upd S.locks a.b.toNat i, trace := S.trace ++ [(i, (S.tk i).at_)], last := i } := by
  unfold stepM; rw [ha]; simp [doA, hk, begS, hw, waitS2, setTk, adv]
  funext j; unfold upd; by_cases e : j = i <;> simp [e]
theorem stp45 (hk : a.k = 4 ∨ a.k = 5) :
    stepM S i = adv (wakeM (begS S i) a.a.toNat (if a.k = 4 then min 1 (S.conds a.a.toNat).length else (S.conds a.a.toNat).length)) i := by
  unfold stepM; rw [ha]
  rcases hk with hk | hk <;> simp [doA, hk, begS]
end

/- where a task stands -/
def posC : Nat → Nat
  | 0 => 0 | 1 => 1 | 2 => 2 | 3 => 2 | 4 => 2 | 5 => 3 | 6 => 4 | _ => 5
def waitC : Nat → Int
  | 3 => 1 | 4 => 2 | _ => 0
def hold (s : Nat) : Prop := s = 1 ∨ s = 2 ∨ s = 5 ∨ s = 6
instance (s : Nat) : Decidable (hold s) := by unfold hold; infer_instance

theorem sumN_full {f : Nat → Nat} (n : Nat) : (∀ i, i < n → f i ≤ 1) → n ≤ sumN f n → ∀ i, i < n → f i = 1 := by
  induction n with
  | zero => intro _ _ i hi; cases hi
  | succ n ih =>
    intro h hs i hi
    have hs : n + 1 ≤ sumN f n + f n := hs
    have h1 := h n (by omega)
    have h2 : sumN f n ≤ sumN (fun _ => 1) n := sumN_le fun i hi => h i (by omega)
    rw [sumN_const] at h2
    by_cases e : i = n
    · subst e; omega
    · exact ih (fun i hi => h i (by omega)) (by omega) i (by omega)

theorem wkL_len (cast : Bool) (n : Nat) : (wkL cast n).length = n + wkE cast n + 2 := by rw [wkL, List.length_append, wkP_len]; simp; omega
theorem wkL_a {cast : Bool} {n c : Nat} (h : c < n) : (wkL cast n)[c]? = some ⟨7, 1, 0, 0⟩ := by
  rw [wkL, wkP, List.append_assoc, List.append_assoc, List.getElem?_append_left (by rw [List.length_replicate]; omega), List.getElem?_replicate, if_pos h]
theorem wkL_b {cast : Bool} {n : Nat} : (wkL cast n)[n]? = some ⟨1, 0, 0, 0⟩ := by
  rw [wkL, wkP, List.append_assoc, List.append_assoc, List.getElem?_append_right (by rw [List.length_replicate]; omega), List.length_replicate, Nat.sub_self]; rfl
theorem wkL_c {cast : Bool} {n c : Nat} (h1 : n < c) (h2 : c < n + 1 + wkE cast n) : (wkL cast n)[c]? = some (wakA cast) := by
  have e : (List.replicate n (⟨7, 1, 0, 0⟩ : Act) ++ ([⟨1, 0, 0, 0⟩] : List Act)).length = n + 1 := by simp
  rw [wkL, List.getElem?_append_left (by rw [wkP_len]; omega), wkP, List.getElem?_append_right (by rw [e]; omega), e, List.getElem?_replicate, if_pos (by omega)]
theorem wkL_d {cast : Bool} {n : Nat} : (wkL cast n)[n + 1 + wkE cast n]? = some ⟨2, 0, 0, 0⟩ := by
  rw [wkL, List.getElem?_append_right (by rw [wkP_len]; omega), wkP_len, Nat.sub_self]; rfl
theorem wkE_le (cast : Bool) (n : Nat) (h : 1 ≤ n) : 1 ≤ wkE cast n ∧ wkE cast n ≤ n := by unfold wkE; split <;> omega

structure CdI (cast : Bool) (n : Nat) (S : Sx) (s : Nat → Nat) (c : Nat) : Prop where
  N : S.N = n + 1
  rm : S.room = 16
  actT : ∀ i, i < n → (S.tk i).acts = wtL
  actW : (S.tk n).acts = wkL cast n
  diedT : ∀ i, i < n → (S.tk i).died = false
  diedW : (S.tk n).died = false
  s7 : ∀ i, i < n → s i ≤ 7
  atT : ∀ i, i < n → (S.tk i).at_ = posC (s i)
  wt : ∀ i, i < n → (S.tk i).wait = waitC (s i)
  atW : (S.tk n).at_ = c
  cl : c ≤ n + wkE cast n + 2
  lockT : ∀ i, i < n → (hold (s i) ↔ S.locks 0 = (i : Int))
  lockW : (n < c ∧ c < n + wkE cast n + 2) ↔ S.locks 0 = (n : Int)
  lockR : S.locks 0 = -1 ∨ ∃ i, i ≤ n ∧ S.locks 0 = (i : Int)
  q : (S.queues 1).length + min c n = sumN (fun i => if 2 ≤ s i then 1 else 0) n
  reg : S.regs 3 = ((sumN (fun i => if 6 ≤ s i then 1 else 0) n : Nat) : Int)
  ph1 : c ≤ n → ∀ i, i < n → s i ≤ 3
  ph2 : n < c → ∀ i, i < n → 3 ≤ s i
  cm : ∀ i, i ∈ S.conds 2 ↔ i < n ∧ s i = 3
  nd : (S.conds 2).Nodup
  wk : n < c → (S.conds 2).length = if cast then (if c = n + 1 then n else 0) else n - (c - (n + 1))

theorem CdI.goT {cast : Bool} {n : Nat} {S : Sx} {s : Nat → Nat} {c : Nat} (h : CdI cast n S s c) {i : Nat} (hi : i < n) (hoth : ∀ j, j < n → j ≠ i → ¬ hold (s j)) (hW : ¬ (n < c ∧ c < n + wkE cast n + 2)) (h3 : s i ≠ 3) (h7 : s i ≠ 7) {S' : Sx} {t : Tk}
    (eN : S'.N = S.N) (er : S'.room = S.room) (et : S'.tk = upd S.tk i t) (t1 : t.acts = (S.tk i).acts) (t2 : t.died = (S.tk i).died) (t3 : t.at_ = posC (s i + 1)) (t4 : t.wait = waitC (s i + 1))
    (hl : S'.locks 0 = if hold (s i + 1) then (i : Int) else -1) (hq : (S'.queues 1).length = (S.queues 1).length + if s i = 1 then 1 else 0) (hr : S'.regs 3 = S.regs 3 + if s i = 5 then 1 else 0)
    (hc : S'.conds 2 = if s i = 2 then S.conds 2 ++ [i] else S.conds 2) : CdI cast n S' (upd s i (s i + 1)) c := by
  have hs7 := h.s7 i hi
  have hni : (i : Int) ≠ (n : Int) := by omega
  have hnot : i ∉ S.conds 2 := fun e => h3 ((h.cm i).1 e).2
  refine ⟨eN.trans h.N, er.trans h.rm, ?_, ?_, ?_, ?_, ?_, ?_, ?_, ?_, h.cl, ?_, ?_, ?_, ?_, ?_, ?_, ?_, ?_, ?_, ?_⟩
  · intro j hj; rw [et]
    by_cases e : j = i
    · subst e; rw [upd_same, t1]; exact h.actT j hj
    · rw [upd_ne e]; exact h.actT j hj
  · rw [et, upd_ne (by omega)]; exact h.actW
  · intro j hj; rw [et]
    by_cases e : j = i
    · subst e; rw [upd_same, t2]; exact h.diedT j hj
    · rw [upd_ne e]; exact h.diedT j hj
  · rw [et, upd_ne (by omega)]; exact h.diedW
  · intro j hj
    by_cases e : j = i
    · subst e; rw [upd_same]; omega
    · rw [upd_ne e]; exact h.s7 j hj
  · intro j hj; rw [et]
    by_cases e : j = i
    · subst e; rw [upd_same, upd_same]; exact t3
    · rw [upd_ne e, upd_ne e]; exact h.atT j hj
  · intro j hj; rw [et]
    by_cases e : j = i
    · subst e; rw [upd_same, upd_same]; exact t4
    · rw [upd_ne e, upd_ne e]; exact h.wt j hj
  · rw [et, upd_ne (by omega)]; exact h.atW
  · intro j hj
    by_cases e : j = i
    · subst e; rw [upd_same, hl]
      by_cases k : hold (s j + 1)
      · simp [k]
      · simp only [k, if_false, false_iff]; omega
    · rw [upd_ne e, hl]
      refine ⟨fun k => absurd k (hoth j hj e), fun k => ?_⟩
      split at k <;> omega
  · rw [hl]
    refine ⟨fun k => absurd k hW, fun k => ?_⟩
    split at k <;> omega
  · rw [hl]
    split
    · exact .inr ⟨i, by omega, rfl⟩
    · exact .inl rfl
  · have := sumN_upd (f := fun j => if 2 ≤ s j then 1 else 0) (g := fun j => if 2 ≤ upd s i (s i + 1) j then 1 else 0) (i := i) (n := n) (fun j hj => by simp only [upd_ne hj]) hi
    have hq0 := h.q
    simp only [upd_same] at this
    rw [hq]
    by_cases e1 : s i = 1
    · rw [if_pos e1]; rw [if_neg (by omega), if_pos (by omega)] at this; omega
    · rw [if_neg e1]
      by_cases e2 : 2 ≤ s i
      · rw [if_pos e2, if_pos (by omega)] at this; omega
      · rw [if_neg e2, if_neg (by omega)] at this; omega
  · have := sumN_upd (f := fun j => if 6 ≤ s j then 1 else 0) (g := fun j => if 6 ≤ upd s i (s i + 1) j then 1 else 0) (i := i) (n := n) (fun j hj => by simp only [upd_ne hj]) hi
    have hr0 := h.reg
    simp only [upd_same] at this
    rw [hr]
    by_cases e1 : s i = 5
    · rw [if_pos e1]; rw [if_neg (by omega), if_pos (by omega)] at this; omega
    · rw [if_neg e1]
      by_cases e2 : 6 ≤ s i
      · rw [if_pos e2, if_pos (by omega)] at this; omega
      · rw [if_neg e2, if_neg (by omega)] at this; omega
  · intro hcn j hj
    have hp := h.ph1 hcn
    by_cases e : j = i
    · subst e; rw [upd_same]; have := hp j hj; omega
    · rw [upd_ne e]; exact hp j hj
  · intro hcn j hj
    have hp := h.ph2 hcn
    by_cases e : j = i
    · subst e; rw [upd_same]; have := hp j hj; omega
    · rw [upd_ne e]; exact hp j hj
  · intro j
    rw [hc]
    by_cases e : j = i
    · subst e; rw [upd_same]
      by_cases e2 : s j = 2
      · rw [if_pos e2]; simp [hi, e2]
      · rw [if_neg e2]
        refine ⟨fun k => absurd k hnot, fun k => ?_⟩
        omega
    · rw [upd_ne e, ← h.cm j]
      split
      · simp [e]
      · exact Iff.rfl
  · rw [hc]
    split
    · rw [List.nodup_append]
      refine ⟨h.nd, by simp, ?_⟩
      intro a ha b hb
      simp only [List.mem_cons, List.not_mem_nil, or_false] at hb
      subst hb
      intro e; subst e; exact hnot ha
    · exact h.nd
  · intro hcn
    have := h.ph2 hcn i hi
    rw [hc, if_neg (by omega)]
    exact h.wk hcn

theorem CdI.task {cast : Bool} {n : Nat} (hn : n ≤ 15) {S : Sx} {s : Nat → Nat} {c : Nat} (h : CdI cast n S s c) {i : Nat} (hi : i < n) (hr : howS S i = 3) : CdI cast n (stepM S i) (upd s i (s i + 1)) c ∧ s i ≤ 6 := by
  have hs7 := h.s7 i hi
  have hat := h.atT i hi
  have hwt := h.wt i hi
  have hx : ∀ x, wtL[posC (s i)]? = some x → (S.tk i).acts[(S.tk i).at_]? = some x := by intro x hx; rw [h.actT i hi, hat]; exact hx
  have hd := h.diedT i hi
  have hne : (i : Int) ≠ (n : Int) := by omega
  have hlk := h.lockT i hi
  have n3 : s i ≠ 3 := by
    intro e
    rw [e] at hx hwt
    rw [how_at hd (hx ⟨3, 2, 0, 0⟩ rfl), hwt] at hr
    simp [waitC] at hr
  have n7 : s i ≠ 7 := by
    intro e
    rw [how_done hd (by rw [h.actT i hi, hat, e]; simp [wtL, posC])] at hr
    cases hr
  have hfree : s i = 0 ∨ s i = 4 → S.locks 0 = -1 := by
    intro e
    rcases h.lockR with k | ⟨j, hj, k⟩
    · exact k
    · exfalso
      have k0 : 0 ≤ S.locks 0 := by omega
      rcases e with e | e
      · rw [e] at hx
        rw [how_at hd (hx ⟨1, 0, 0, 0⟩ rfl), if_pos (.inl ⟨rfl, k0⟩)] at hr
        cases hr
      · rw [e] at hx hwt
        rw [how_at hd (hx ⟨3, 2, 0, 0⟩ rfl), if_pos (.inr ⟨rfl, by rw [hwt]; rfl, k0⟩)] at hr
        cases hr
  have hown : s i ≠ 0 → s i ≠ 4 → S.locks 0 = (i : Int) := by
    intro e0 e4
    refine hlk.1 ?_
    unfold hold; omega
  have hl : S.locks 0 = -1 ∨ S.locks 0 = (i : Int) := by
    by_cases e0 : s i = 0
    · exact .inl (hfree (.inl e0))
    · by_cases e4 : s i = 4
      · exact .inl (hfree (.inr e4))
      · exact .inr (hown e0 e4)
  have hoth : ∀ j, j < n → j ≠ i → ¬ hold (s j) := by
    intro j hj hji k
    have := (h.lockT j hj).1 k
    omega
  have hW : ¬ (n < c ∧ c < n + wkE cast n + 2) := by
    intro k
    have := h.lockW.1 k
    omega
  have hb : sumN (fun i => if 6 ≤ s i then 1 else 0) n ≤ sumN (fun _ => 1) n := sumN_le fun i hi => by split <;> omega
  rw [sumN_const] at hb
  have hreg := h.reg
  refine ⟨?_, by omega⟩
  have e : s i = 0 ∨ s i = 1 ∨ s i = 2 ∨ s i = 4 ∨ s i = 5 ∨ s i = 6 := by omega
  rcases e with e | e | e | e | e | e
  · rw [e] at hx hat hwt
    rw [stp1 (hx ⟨1, 0, 0, 0⟩ rfl) rfl]
    refine h.goT hi hoth hW n3 n7 (t := { S.tk i with at_ := (S.tk i).at_ + 1 }) (by rfl) (by rfl) (by rfl) rfl rfl (by rw [e, hat]; rfl) (by rw [e]; exact hwt) ?_ ?_ ?_ ?_ <;> rw [e]
    · rw [if_pos (by simp [hold])]; rfl
    · rfl
    · exact (Int.add_zero _).symm
    · rfl
  · rw [e] at hx hat hwt
    rw [stp6 (hx ⟨6, 1, 0, 1⟩ rfl) rfl]
    refine h.goT hi hoth hW n3 n7 (t := { S.tk i with at_ := (S.tk i).at_ + 1 }) (by rfl) (by rfl) (by rfl) rfl rfl (by rw [e, hat]; rfl) (by rw [e]; exact hwt) ?_ ?_ ?_ ?_ <;> rw [e]
    · rw [if_pos (by simp [hold])]; exact hown (by omega) (by omega)
    · show (upd S.queues 1 (S.queues 1 ++ [1]) 1).length = _
      rw [upd_same, List.length_append]; rfl
    · exact (Int.add_zero _).symm
    · rfl
  · rw [e] at hx hat hwt
    rw [stp3a (hx ⟨3, 2, 0, 0⟩ rfl) rfl hwt (hown (by omega) (by omega))]
    refine h.goT hi hoth hW n3 n7 (t := { S.tk i with wait := 1 }) (by rfl) (by rfl) (by rfl) rfl rfl (by rw [e]; exact hat) (by rw [e]; rfl) ?_ ?_ ?_ ?_ <;> rw [e]
    · rw [if_neg (by simp [hold])]; rfl
    · rfl
    · exact (Int.add_zero _).symm
    · rfl
  · rw [e] at hx hat hwt
    rw [stp3b (hx ⟨3, 2, 0, 0⟩ rfl) rfl (by rw [hwt]; simp [waitC])]
    refine h.goT hi hoth hW n3 n7 (t := { S.tk i with wait := 0, at_ := (S.tk i).at_ + 1 }) (by rfl) (by rfl) (by rfl) rfl rfl (by show (S.tk i).at_ + 1 = _; rw [e, hat]; rfl) (by rw [e]; rfl) ?_ ?_ ?_ ?_ <;> rw [e]
    · rw [if_pos (by simp [hold])]; rfl
    · rfl
    · exact (Int.add_zero _).symm
    · rfl
  · rw [e] at hx hat hwt
    rw [stp8 (hx ⟨8, 3, 0, 1⟩ rfl) rfl]
    refine h.goT hi hoth hW n3 n7 (t := { S.tk i with at_ := (S.tk i).at_ + 1 }) (by rfl) (by rfl) (by rfl) rfl rfl (by rw [e, hat]; rfl) (by rw [e]; exact hwt) ?_ ?_ ?_ ?_ <;> rw [e]
    · rw [if_pos (by simp [hold])]; exact hown (by omega) (by omega)
    · rfl
    · show upd S.regs 3 (IntKind.i64.wrap (S.regs 3 + 1)) 3 = _
      rw [upd_same, if_pos rfl]
      exact IntWalk.i64_in _ (by omega)
    · rfl
  · rw [e] at hx hat hwt
    rw [stp2 (hx ⟨2, 0, 0, 0⟩ rfl) rfl (hown (by omega) (by omega))]
    refine h.goT hi hoth hW n3 n7 (t := { S.tk i with at_ := (S.tk i).at_ + 1 }) (by rfl) (by rfl) (by rfl) rfl rfl (by rw [e, hat]; rfl) (by rw [e]; exact hwt) ?_ ?_ ?_ ?_ <;> rw [e]
    · rw [if_neg (by simp [hold])]; rfl
    · rfl
    · exact (Int.add_zero _).symm
    · rfl

/- the waker's step -/
theorem CdI.wake {cast : Bool} {n : Nat} (hn1 : 1 ≤ n) {S : Sx} {s : Nat → Nat} {c : Nat} (h : CdI cast n S s c) (hr : howS S n = 3) : ∃ s', CdI cast n (stepM S n) s' (c + 1) ∧ c < n + wkE cast n + 2 ∧ (∀ i, i < n → s i ≤ s' i) := by
  have hE := wkE_le cast n hn1
  have hcl := h.cl
  have hx : ∀ x, (wkL cast n)[c]? = some x → (S.tk n).acts[(S.tk n).at_]? = some x := by intro x hx; rw [h.actW, h.atW]; exact hx
  have hd := h.diedW
  have hlt : c < n + wkE cast n + 2 := by
    refine Classical.byContradiction fun e => ?_
    rw [how_done hd (by rw [h.actW, h.atW, wkL_len]; omega)] at hr
    cases hr
  have hnx : ∀ j, j < n → nx S n j = S.tk j := fun j hj => by unfold nx; rw [upd_ne (by omega)]
  have hnn : nx S n n = { S.tk n with at_ := (S.tk n).at_ + 1 } := by unfold nx; rw [upd_same]
  have hatW := h.atW
  by_cases c1 : c < n
  · -- takes
    have hact := hx _ (wkL_a c1)
    have hq0 : (S.queues 1).length ≠ 0 := by
      intro e
      rw [how_at hd hact, if_neg (by simp), if_neg (by simp), if_neg (by simp), if_pos ⟨rfl, e⟩] at hr
      cases hr
    rw [stp7 hact rfl]
    refine ⟨s, ⟨h.N, h.rm, ?_, ?_, ?_, ?_, h.s7, ?_, ?_, ?_, by omega, h.lockT, ?_, h.lockR, ?_, ?_, fun _ => h.ph1 (by omega), fun e => by omega, h.cm, h.nd, fun e => by omega⟩, hlt, fun _ _ => Nat.le_refl _⟩
    · intro j hj; show (nx S n j).acts = _; rw [hnx j hj]; exact h.actT j hj
    · show (nx S n n).acts = _; rw [hnn]; exact h.actW
    · intro j hj; show (nx S n j).died = _; rw [hnx j hj]; exact h.diedT j hj
    · show (nx S n n).died = _; rw [hnn]; exact h.diedW
    · intro j hj; show (nx S n j).at_ = _; rw [hnx j hj]; exact h.atT j hj
    · intro j hj; show (nx S n j).wait = _; rw [hnx j hj]; exact h.wt j hj
    · show (nx S n n).at_ = _; rw [hnn]; show (S.tk n).at_ + 1 = _; rw [hatW]
    · have := h.lockW
      refine ⟨fun e => by omega, fun e => ?_⟩
      have := this.2 e; omega
    · have hq := h.q
      show (upd S.queues 1 (S.queues 1).tail 1).length + _ = _
      rw [upd_same, List.length_tail]; omega
    · show upd S.regs 0 ((S.queues 1).headD 0) 3 = _; rw [upd_ne (by omega)]; exact h.reg
  by_cases c2 : c = n
  · -- locks
    subst c2
    have hact := hx _ wkL_b
    have hl : S.locks 0 = -1 := by
      rcases h.lockR with k | ⟨j, hj, k⟩
      · exact k
      · exfalso
        have k0 : 0 ≤ S.locks 0 := by omega
        rw [how_at hd hact, if_pos (.inl ⟨rfl, k0⟩)] at hr
        cases hr
    have h3 : ∀ i, i < c → s i = 3 := by
      intro i hi
      have hq := h.q
      have h2 := sumN_full (f := fun i => if 2 ≤ s i then 1 else 0) c (fun i hi => by split <;> omega) (by omega) i hi
      have h2 : 2 ≤ s i := by
        split at h2
        · assumption
        · cases h2
      have hp := h.ph1 (Nat.le_refl _) i hi
      have hk := h.lockT i hi
      rw [hl] at hk
      have : ¬ hold (s i) := fun e => by have := hk.1 e; omega
      unfold hold at this
      omega
    have hlen : (S.conds 2).length = c := by
      have hp : (S.conds 2).Perm (List.range c) := (List.perm_ext_iff_of_nodup h.nd List.nodup_range).2 fun i => by
        rw [h.cm i, List.mem_range]
        exact ⟨fun e => e.1, fun e => ⟨e, h3 i e⟩⟩
      rw [hp.length_eq, List.length_range]
    rw [stp1 hact rfl]
    refine ⟨s, ⟨h.N, h.rm, ?_, ?_, ?_, ?_, h.s7, ?_, ?_, ?_, by omega, ?_, ?_, .inr ⟨c, by omega, rfl⟩, ?_, h.reg, fun e => by omega, fun _ i hi => by rw [h3 i hi]; omega, h.cm, h.nd, fun _ => ?_⟩, hlt, fun _ _ => Nat.le_refl _⟩
    · intro j hj; show (nx S c j).acts = _; rw [hnx j hj]; exact h.actT j hj
    · show (nx S c c).acts = _; rw [hnn]; exact h.actW
    · intro j hj; show (nx S c j).died = _; rw [hnx j hj]; exact h.diedT j hj
    · show (nx S c c).died = _; rw [hnn]; exact h.diedW
    · intro j hj; show (nx S c j).at_ = _; rw [hnx j hj]; exact h.atT j hj
    · intro j hj; show (nx S c j).wait = _; rw [hnx j hj]; exact h.wt j hj
    · show (nx S c c).at_ = _; rw [hnn]; show (S.tk c).at_ + 1 = _; rw [hatW]
    · intro j hj
      show hold (s j) ↔ (c : Int) = (j : Int)
      rw [h3 j hj]
      refine ⟨fun e => by simp [hold] at e, fun e => by omega⟩
    · show _ ↔ (c : Int) = (c : Int)
      refine ⟨fun _ => rfl, fun _ => by omega⟩
    · have hq := h.q
      show (S.queues 1).length + _ = _
      omega
    · show (S.conds 2).length = _
      rw [hlen]
      cases cast <;> simp
  have c3 : n < c := by omega
  have hlW : S.locks 0 = (n : Int) := h.lockW.1 ⟨c3, hlt⟩
  by_cases c4 : c < n + 1 + wkE cast n
  · -- wakes
    have hact := hx _ (wkL_c c3 c4)
    have hwk := h.wk c3
    generalize hrr : (if (wakA cast).k = 4 then min 1 (S.conds 2).length else (S.conds 2).length) = r
    have hst : stepM S n = adv (wakeM (begS S n) 2 r) n := by
      have e2 : (wakA cast).a.toNat = 2 := by cases cast <;> rfl
      have := stp45 hact (by cases cast <;> simp [wakA])
      rw [e2, hrr] at this
      exact this
    have hrl : r ≤ (S.conds 2).length := by rw [← hrr]; split <;> omega
    have rest := wakeAll_rest ((S.conds 2).take r) (begS S n)
    have hcond : (stepM S n).conds 2 = (S.conds 2).drop r := by
      rw [hst]; show upd S.conds 2 ((S.conds 2).drop r) 2 = _; rw [upd_same]
    have htk : ∀ j, j ≠ n → (stepM S n).tk j = if j ∈ (S.conds 2).take r then { S.tk j with wait := 2 } else S.tk j := by
      intro j hj
      rw [hst]
      show upd (wakeAll (begS S n) ((S.conds 2).take r)).tk n _ j = _
      rw [upd_ne hj, wakeAll_get]; rfl
    have hnm : n ∉ (S.conds 2).take r := fun e => by have := ((h.cm n).1 (List.mem_of_mem_take e)).1; omega
    have htn : (stepM S n).tk n = { S.tk n with at_ := (S.tk n).at_ + 1 } := by
      rw [hst]
      show upd (wakeAll (begS S n) ((S.conds 2).take r)).tk n { (wakeAll (begS S n) ((S.conds 2).take r)).tk n with at_ := ((wakeAll (begS S n) ((S.conds 2).take r)).tk n).at_ + 1 } n = _
      rw [upd_same, wakeAll_get, if_neg hnm]; rfl
    have e1 : (stepM S n).N = S.N := by rw [hst]; exact rest.1
    have e2 : (stepM S n).room = S.room := by rw [hst]; exact rest.2.1
    have e3 : (stepM S n).locks = S.locks := by rw [hst]; exact rest.2.2.1
    have e5 : (stepM S n).queues = S.queues := by rw [hst]; exact rest.2.2.2.2.1
    have e6 : (stepM S n).regs = S.regs := by rw [hst]; exact rest.2.2.2.2.2.1
    have hmem3 : ∀ j, j ∈ (S.conds 2).take r → s j = 3 := fun j hj => ((h.cm j).1 (List.mem_of_mem_take hj)).2
    have hdj : ∀ j, j ∈ (S.conds 2).take r → j ∉ (S.conds 2).drop r := by
      intro j h1 h2
      have hnd := h.nd
      rw [← List.take_append_drop r (S.conds 2), List.nodup_append] at hnd
      exact hnd.2.2 j h1 j h2 rfl
    refine ⟨fun j => if j ∈ (S.conds 2).take r then 4 else s j, ⟨e1.trans h.N, e2.trans h.rm, ?_, ?_, ?_, ?_, ?_, ?_, ?_, ?_, by omega, ?_, ?_, ?_, ?_, ?_, fun e => by omega, ?_, ?_, ?_, ?_⟩, hlt, ?_⟩
    · intro j hj; rw [htk j (by omega)]; split <;> exact h.actT j hj
    · rw [htn]; exact h.actW
    · intro j hj; rw [htk j (by omega)]; split <;> exact h.diedT j hj
    · rw [htn]; exact h.diedW
    · intro j hj; (try simp only); split
      · omega
      · exact h.s7 j hj
    · intro j hj; rw [htk j (by omega)]; try simp only
      by_cases e : j ∈ (S.conds 2).take r
      · simp only [e, if_true]; rw [h.atT j hj, hmem3 j e]; rfl
      · simp only [e, if_false]; exact h.atT j hj
    · intro j hj; rw [htk j (by omega)]; try simp only
      by_cases e : j ∈ (S.conds 2).take r
      · simp only [e, if_true]; rfl
      · simp only [e, if_false]; exact h.wt j hj
    · rw [htn]; show (S.tk n).at_ + 1 = _; rw [hatW]
    · intro j hj
      rw [e3, ← h.lockT j hj]; try simp only
      by_cases e : j ∈ (S.conds 2).take r
      · simp only [e, if_true]; rw [hmem3 j e]; simp [hold]
      · simp only [e, if_false]
    · rw [e3]; exact ⟨fun _ => hlW, fun _ => by omega⟩
    · rw [e3]; exact h.lockR
    · have hq := h.q
      rw [e5, sumN_congr (g := fun i => if 2 ≤ s i then 1 else 0) (fun i hi => by
        try simp only
        by_cases e : i ∈ (S.conds 2).take r
        · simp only [e, if_true]; rw [hmem3 i e]; simp
        · simp only [e, if_false])]
      omega
    · rw [e6, sumN_congr (g := fun i => if 6 ≤ s i then 1 else 0) (fun i hi => by
        try simp only
        by_cases e : i ∈ (S.conds 2).take r
        · simp only [e, if_true]; rw [hmem3 i e]; simp
        · simp only [e, if_false])]
      exact h.reg
    · intro _ j hj; (try simp only); split
      · omega
      · exact h.ph2 c3 j hj
    · intro j
      rw [hcond]
      by_cases e : j ∈ (S.conds 2).take r
      · simp only [e, if_true]
        refine ⟨fun k => absurd k (hdj j e), fun k => by omega⟩
      · simp only [e, if_false]
        rw [← h.cm j]
        constructor
        · exact List.mem_of_mem_drop
        · intro k
          rw [← List.take_append_drop r (S.conds 2), List.mem_append] at k
          rcases k with k | k
          · exact absurd k e
          · exact k
    · rw [hcond]; exact h.nd.sublist (List.drop_sublist _ _)
    · intro _
      rw [hcond, List.length_drop, ← hrr]
      cases cast with
      | true =>
        have k5 : ¬ (wakA true).k = 4 := by decide
        simp only [if_true, if_neg k5, wkE] at hwk c4 ⊢
        rw [if_neg (by omega)]; omega
      | false =>
        have k4 : (wakA false).k = 4 := rfl
        simp only [Bool.false_eq_true, if_false, k4, if_true, wkE] at hwk c4 ⊢
        omega
    · intro j hj
      try simp only
      split
      · rename_i e; rw [hmem3 j e]; omega
      · exact Nat.le_refl _
  · -- unlocks
    obtain rfl : c = n + 1 + wkE cast n := by omega
    have hact := hx _ wkL_d
    have hwk := h.wk c3
    rw [stp2 hact rfl hlW]
    refine ⟨s, ⟨h.N, h.rm, ?_, ?_, ?_, ?_, h.s7, ?_, ?_, ?_, by omega, ?_, ?_, .inl rfl, ?_, h.reg, fun e => by omega, fun _ => h.ph2 c3, h.cm, h.nd, fun _ => ?_⟩, hlt, fun _ _ => Nat.le_refl _⟩
    · intro j hj; show (nx S n j).acts = _; rw [hnx j hj]; exact h.actT j hj
    · show (nx S n n).acts = _; rw [hnn]; exact h.actW
    · intro j hj; show (nx S n j).died = _; rw [hnx j hj]; exact h.diedT j hj
    · show (nx S n n).died = _; rw [hnn]; exact h.diedW
    · intro j hj; show (nx S n j).at_ = _; rw [hnx j hj]; exact h.atT j hj
    · intro j hj; show (nx S n j).wait = _; rw [hnx j hj]; exact h.wt j hj
    · show (nx S n n).at_ = _; rw [hnn]; show (S.tk n).at_ + 1 = _; rw [hatW]
    · intro j hj
      have hk := h.lockT j hj
      show hold (s j) ↔ (-1 : Int) = (j : Int)
      refine ⟨fun e => by have := hk.1 e; omega, fun e => by omega⟩
    · show _ ↔ (-1 : Int) = (n : Int)
      refine ⟨fun e => by omega, fun e => by omega⟩
    · have hq := h.q
      show (S.queues 1).length + _ = _
      omega
    · show (S.conds 2).length = _
      rw [hwk]
      cases cast with
      | true => simp only [if_true, wkE]; rw [if_neg (by omega), if_neg (by omega)]
      | false => simp only [Bool.false_eq_true, if_false, wkE]; omega

theorem conds_pure (cast : Bool) {n : Nat} {picks : List Int} (n1 : 1 ≤ n) (n15 : n ≤ 15) (hp : picks.length ≤ 3000) (hnn : nonneg picks) : CondsOk cast n picks := by
  have hE := wkE_le cast n n1
  have hT : ∀ i, i < n → (cdT cast n).getD i [] = wtL := by
    intro i hi
    rw [cdT, List.getD_eq_getElem?_getD, List.getElem?_append_left (by rw [List.length_replicate]; exact hi), List.getElem?_replicate, if_pos hi]; rfl
  have hTn : (cdT cast n).getD n [] = wkL cast n := by
    rw [cdT, List.getD_eq_getElem?_getD, List.getElem?_append_right (by rw [List.length_replicate]; omega), List.length_replicate, Nat.sub_self]; rfl
  have hI0 : CdI cast n (S0 (cdT cast n) 16) (fun _ => 0) 0 := by
    refine ⟨?_, rfl, fun i hi => hT i hi, hTn, fun _ _ => rfl, rfl, fun _ _ => by omega, fun _ _ => rfl, fun _ _ => rfl, rfl, by omega, ?_, ?_, .inl rfl, ?_, ?_, fun _ _ _ => by omega, fun e => by omega, ?_, List.nodup_nil, fun e => by omega⟩
    · show (cdT cast n).length = _; rw [cdT, List.length_append, List.length_replicate]; rfl
    · intro i hi
      show hold 0 ↔ (-1 : Int) = (i : Int)
      refine ⟨fun e => by simp [hold] at e, fun e => by omega⟩
    · show _ ↔ (-1 : Int) = (n : Int)
      refine ⟨fun e => by omega, fun e => by omega⟩
    · show 0 + min 0 n = _
      rw [sumN_congr (g := fun _ => 0) (fun i hi => by simp), sumN_const]; omega
    · show (0 : Int) = _
      rw [sumN_congr (g := fun _ => 0) (fun i hi => by simp), sumN_const]; simp
    · intro i
      show i ∈ ([] : List Nat) ↔ _
      simp
  obtain ⟨⟨m', s, c, hI, _⟩, hR⟩ := run_invM (I := fun m S => ∃ s c, CdI cast n S s c ∧ m = sumN (fun i => 7 - s i) n + (n + wkE cast n + 2 - c)) (by
    rintro m S i ⟨s, c, h, rfl⟩ hi hr
    have hN := h.N
    by_cases e : i = n
    · subst e
      obtain ⟨s', h1, h2, h3⟩ := h.wake n1 hr
      have hle : sumN (fun j => 7 - s' j) i ≤ sumN (fun j => 7 - s j) i := sumN_le fun j hj => by have := h3 j hj; omega
      exact ⟨_, by omega, s', c + 1, h1, rfl⟩
    · have hin : i < n := by omega
      obtain ⟨h1, h2⟩ := h.task n15 hin hr
      have := sumN_upd (f := fun j => 7 - s j) (g := fun j => 7 - upd s i (s i + 1) j) (i := i) (n := n) (fun j hj => by simp only [upd_ne hj]) hin
      simp only [upd_same] at this
      exact ⟨_, by omega, _, c, h1, rfl⟩) 65536 (S0 (cdT cast n) 16) _ picks ⟨_, _, hI0, rfl⟩ (by rw [sumN_const]; omega)
  generalize hS : runM 65536 (S0 (cdT cast n) 16) picks = S at hI hR
  have hN := hI.N
  have hcl := hI.cl
  have hx : ∀ i, i < n → ∀ x, wtL[posC (s i)]? = some x → (S.tk i).acts[(S.tk i).at_]? = some x := by intro i hi x hx; rw [hI.actT i hi, hI.atT i hi]; exact hx
  have hxw : ∀ x, (wkL cast n)[c]? = some x → (S.tk n).acts[(S.tk n).at_]? = some x := by intro x hx; rw [hI.actW, hI.atW]; exact hx
  have hlock : S.locks 0 = -1 := by
    rcases hI.lockR with k | ⟨i, hi, k⟩
    · exact k
    · exfalso
      by_cases e : i = n
      · subst e
        obtain ⟨k1, k2⟩ := hI.lockW.2 k
        refine rdy_nil hR (i := i) (by omega) ?_
        by_cases c4 : c < i + 1 + wkE cast i
        · rw [how_at hI.diedW (hxw _ (wkL_c k1 c4))]
          cases cast <;> rfl
        · obtain rfl : c = i + 1 + wkE cast i := by omega
          rw [how_at hI.diedW (hxw _ wkL_d)]
          rfl
      · have hin : i < n := by omega
        have hh := (hI.lockT i hin).2 k
        refine rdy_nil hR (i := i) (by omega) ?_
        have hw := hI.wt i hin
        have hxi := hx i hin
        have hq := hI.q
        have hq2 : sumN (fun i => if 2 ≤ s i then 1 else 0) n ≤ sumN (fun _ => 1) n := sumN_le fun i hi => by split <;> omega
        rw [sumN_const] at hq2
        unfold hold at hh
        rcases hh with e | e | e | e <;> rw [e] at hxi hw
        · rw [how_at (hI.diedT i hin) (hxi ⟨6, 1, 0, 1⟩ rfl), if_neg (by simp), if_neg (by simp), if_neg, if_neg (by simp)]
          rintro ⟨_, h⟩
          have h' : S.room ≤ ((S.queues 1).length : Nat) := h
          rw [hI.rm] at h'
          omega
        · rw [how_at (hI.diedT i hin) (hxi ⟨3, 2, 0, 0⟩ rfl), hw]; rfl
        · rw [how_at (hI.diedT i hin) (hxi ⟨8, 3, 0, 1⟩ rfl)]; rfl
        · rw [how_at (hI.diedT i hin) (hxi ⟨2, 0, 0, 0⟩ rfl)]; rfl
  have hn0 : ¬ 0 ≤ S.locks 0 := by omega
  have hs : ∀ i, i < n → s i = 3 ∨ s i = 7 := by
    intro i hi
    have h7 := hI.s7 i hi
    have hh : ¬ hold (s i) := fun e => by have := (hI.lockT i hi).1 e; omega
    have hw := hI.wt i hi
    have hxi := hx i hi
    have e0 : s i ≠ 0 := by
      intro e
      rw [e] at hxi
      refine rdy_nil hR (i := i) (by omega) ?_
      rw [how_at (hI.diedT i hi) (hxi ⟨1, 0, 0, 0⟩ rfl), if_neg, if_neg (by simp), if_neg (by simp), if_neg (by simp)]
      rintro (⟨_, k⟩ | ⟨k, _⟩)
      · exact hn0 k
      · simp at k
    have e4 : s i ≠ 4 := by
      intro e
      rw [e] at hxi hw
      refine rdy_nil hR (i := i) (by omega) ?_
      rw [how_at (hI.diedT i hi) (hxi ⟨3, 2, 0, 0⟩ rfl), hw, if_neg, if_neg (by simp [waitC]), if_neg (by simp), if_neg (by simp)]
      rintro (⟨k, _⟩ | ⟨_, _, k⟩)
      · simp at k
      · exact hn0 k
    unfold hold at hh
    omega
  have hc : c = n + wkE cast n + 2 := by
    refine Classical.byContradiction fun e => ?_
    have hnW : ¬ (n < c ∧ c < n + wkE cast n + 2) := fun k => by have := hI.lockW.1 k; omega
    refine rdy_nil hR (i := n) (by omega) ?_
    by_cases c1 : c < n
    · have hq := hI.q
      rw [sumN_congr (g := fun _ => 1) (fun i hi => by (try simp only); rw [if_pos]; have := hs i hi; omega), sumN_const] at hq
      rw [how_at hI.diedW (hxw _ (wkL_a c1)), if_neg (by simp), if_neg (by simp), if_neg (by simp), if_neg]
      rintro ⟨_, k⟩
      have k' : (S.queues 1).length = 0 := k
      omega
    · obtain rfl : c = n := by omega
      rw [how_at hI.diedW (hxw _ wkL_b), if_neg, if_neg (by simp), if_neg (by simp), if_neg (by simp)]
      rintro (⟨_, k⟩ | ⟨k, _⟩)
      · exact hn0 k
      · simp at k
  have hs7 : ∀ i, i < n → s i = 7 := by
    intro i hi
    have h1 := hI.wk (by omega)
    have hl0 : (S.conds 2).length = 0 := by
      rw [h1, hc]
      cases cast with
      | true => simp only [if_true, wkE]; rw [if_neg (by omega)]
      | false => simp only [Bool.false_eq_true, if_false, wkE]; omega
    rcases hs i hi with e | e
    · have := (hI.cm i).2 ⟨hi, e⟩
      rw [List.eq_nil_of_length_eq_zero hl0] at this
      cases this
    · exact e
  refine ⟨?_, ?_, ?_⟩
  · refine asked_of ?_ ?_ ?_ (by omega) (by omega) (by omega) (by omega) (by omega) hnn
    · rw [cdT, List.length_append, List.length_replicate]; simp; omega
    · intro l hl
      rcases List.mem_append.1 hl with h | h
      · rw [List.eq_of_mem_replicate h]; simp [wtL]
      · simp only [List.mem_cons, List.not_mem_nil, or_false] at h
        rw [h, wkL_len]; omega
    · intro l hl a ha
      rcases List.mem_append.1 hl with h | h
      · rw [List.eq_of_mem_replicate h] at ha ⊢
        simp only [wtL, List.mem_cons, List.not_mem_nil, or_false] at ha
        rcases ha with rfl | rfl | rfl | rfl | rfl <;> exact ⟨rfl, rfl⟩
      · simp only [List.mem_cons, List.not_mem_nil, or_false] at h
        subst h
        generalize (wkL cast n).length = len
        simp only [wkL, wkP, List.mem_append, List.mem_cons, List.not_mem_nil, or_false] at ha
        rcases ha with ((ha | rfl) | ha) | rfl
        · rw [List.eq_of_mem_replicate ha]; exact ⟨rfl, rfl⟩
        · exact ⟨rfl, rfl⟩
        · rw [List.eq_of_mem_replicate ha]; cases cast <;> exact ⟨rfl, rfl⟩
        · exact ⟨rfl, rfl⟩
  · rw [hS, hI.reg, sumN_congr (g := fun _ => 1) (fun i hi => by (try simp only); rw [hs7 i hi]; rfl), sumN_const]; simp
  · intro i hi
    rw [hS]
    by_cases e : i = n
    · subst e
      exact how_done hI.diedW (by rw [hI.actW, hI.atW, wkL_len]; omega)
    · have hin : i < n := by omega
      exact how_done (hI.diedT i hin) (by rw [hI.actT i hin, hI.atT i hin, hs7 i hin]; simp [wtL, posC])
end Go.Am.T
