/- The law SchedLocks in the scheduler's model: whatever the order, no addition is lost. Conditions: those of each theorem. -/
import Derived.Test.YthanhcpnhionaaaPuA
import Derived.Test.YthanhcpnhionaaaSdQ
set_option linter.all false
set_option linter.unusedSimpArgs false
set_option linter.unusedVariables false
namespace Go.Am.T
open Go Go.Am Go.Proofs.Ythanhcpnhionaaa Go.Proofs

/- so much of the tasks is left -/
def muS (S : Sx) : Nat := sumN (fun i => (S.tk i).acts.length - (S.tk i).at_) S.N
theorem muS_nx {S S' : Sx} {i : Nat} (eN : S'.N = S.N) (et : S'.tk = nx S i) (hi : i < S.N) (hat : (S.tk i).at_ < (S.tk i).acts.length) : muS S' < muS S := by
  unfold muS
  rw [eN, et]
  have := sumN_upd (f := fun j => (S.tk j).acts.length - (S.tk j).at_) (g := fun j => (nx S i j).acts.length - (nx S i j).at_) (i := i) (n := S.N) (fun j hj => by simp only [nx, upd_ne hj]) hi
  simp only [nx, upd_same] at this ⊢
  omega

def lb : Bool → Nat
  | true => 6
  | false => 5
theorem lb_le (y : Bool) : 5 ≤ lb y ∧ lb y ≤ 6 := by cases y <;> simp [lb]
theorem tskL_length (y : Bool) (i : Nat) : ∀ t, (tskL y i t).length = lb y * t
  | 0 => rfl
  | t + 1 => by
    rw [tskL, List.length_append, tskL_length y i t, Nat.mul_succ]
    cases y <;> rfl
theorem tskL_at (y : Bool) (i : Nat) {q r : Nat} (hr : r < lb y) : ∀ {t : Nat}, q < t → (tskL y i t)[lb y * q + r]? = (blkL y i)[r]?
  | 0, h => by cases h
  | t + 1, h => by
    rw [tskL]
    by_cases e : q = t
    · subst e
      rw [List.getElem?_append_right (by rw [tskL_length]; omega), tskL_length]
      congr 1; omega
    · have hb : lb y * q + r < lb y * t := by
        have : lb y * (q + 1) ≤ lb y * t := Nat.mul_le_mul_left _ (by omega)
        rw [Nat.mul_succ] at this; omega
      rw [List.getElem?_append_left (by rw [tskL_length]; exact hb)]
      exact tskL_at y i hr (by omega)

def cntL (y : Bool) (q r : Nat → Nat) (j : Nat) : Nat := q j + if r j + 1 = lb y then 1 else 0

structure LI (y : Bool) (n t : Nat) (S : Sx) (q r : Nat → Nat) : Prop where
  N : S.N = n
  acts : ∀ i, i < n → (S.tk i).acts = tskL y i t
  died : ∀ i, i < n → (S.tk i).died = false
  at_ : ∀ i, i < n → (S.tk i).at_ = lb y * q i + r i
  rng : ∀ i, i < n → r i < lb y ∧ (q i < t ∨ q i = t ∧ r i = 0)
  lock : ∀ i, i < n → (r i ≠ 0 ↔ S.locks 2 = (i : Int))
  lr : S.locks 2 = -1 ∨ ∃ i, i < n ∧ S.locks 2 = (i : Int)
  reg0 : S.regs 0 = ((sumN (fun j => (j + 1) * cntL y q r j) n : Nat) : Int)
  reg1 : ∀ i, i < n → 2 ≤ r i → r i + 3 ≤ lb y → S.regs 1 = S.regs 0
  reg2 : ∀ i, i < n → r i + 2 = lb y → S.regs 1 = S.regs 0 + ((i + 1 : Nat) : Int)

theorem LI.cnt {y : Bool} {n t : Nat} {S : Sx} {q r : Nat → Nat} (h : LI y n t S q r) {i : Nat} (hi : i < n) : cntL y q r i ≤ t := by
  have h1 := h.rng i hi
  have h2 := lb_le y
  unfold cntL
  split <;> omega
theorem LI.bound {y : Bool} {n t : Nat} {S : Sx} {q r : Nat → Nat} (h : LI y n t S q r) (hn : n ≤ 7) (ht : t ≤ 8) : sumN (fun j => (j + 1) * cntL y q r j) n ≤ 392 := by
  have h1 : sumN (fun j => (j + 1) * cntL y q r j) n ≤ sumN (fun _ => 7 * 8) n := sumN_le fun i hi => Nat.mul_le_mul (by omega) (Nat.le_trans (h.cnt hi) ht)
  rw [sumN_const] at h1
  omega

theorem LI.go {y : Bool} {n t : Nat} {S : Sx} {q r : Nat → Nat} (h : LI y n t S q r) {i : Nat} (hi : i < n) (hoth : ∀ j, j < n → j ≠ i → r j = 0) {S' : Sx} (eN : S'.N = S.N) (et : S'.tk = nx S i) {q' r' d : Nat}
    (hat : lb y * q i + r i + 1 = lb y * q' + r') (hr : r' < lb y ∧ (q' < t ∨ q' = t ∧ r' = 0)) (hl : S'.locks 2 = if r' = 0 then -1 else (i : Int))
    (hd : q' + (if r' + 1 = lb y then 1 else 0) = cntL y q r i + d) (h0 : S'.regs 0 = S.regs 0 + (((i + 1) * d : Nat) : Int))
    (h1 : 2 ≤ r' → r' + 3 ≤ lb y → S'.regs 1 = S'.regs 0) (h2 : r' + 2 = lb y → S'.regs 1 = S'.regs 0 + ((i + 1 : Nat) : Int)) : LI y n t S' (upd q i q') (upd r i r') := by
  have hb := lb_le y
  refine ⟨eN.trans h.N, ?_, ?_, ?_, ?_, ?_, ?_, ?_, ?_, ?_⟩
  · intro j hj; rw [et]; unfold nx
    by_cases e : j = i
    · subst e; rw [upd_same]; exact h.acts j hj
    · rw [upd_ne e]; exact h.acts j hj
  · intro j hj; rw [et]; unfold nx
    by_cases e : j = i
    · subst e; rw [upd_same]; exact h.died j hj
    · rw [upd_ne e]; exact h.died j hj
  · intro j hj; rw [et]; unfold nx
    by_cases e : j = i
    · subst e; rw [upd_same, upd_same, upd_same, ← hat]; have := h.at_ j hj; simp only; omega
    · rw [upd_ne e, upd_ne e, upd_ne e]; exact h.at_ j hj
  · intro j hj
    by_cases e : j = i
    · subst e; rw [upd_same, upd_same]; exact hr
    · rw [upd_ne e, upd_ne e]; exact h.rng j hj
  · intro j hj
    by_cases e : j = i
    · subst e; rw [upd_same, hl]; split <;> omega
    · rw [upd_ne e, hoth j hj e, hl]; split <;> omega
  · rw [hl]
    split
    · exact .inl rfl
    · exact .inr ⟨i, hi, rfl⟩
  · have := sumN_upd (f := fun j => (j + 1) * cntL y q r j) (g := fun j => (j + 1) * cntL y (upd q i q') (upd r i r') j) (i := i) (n := n) (fun j hj => by simp only [cntL, upd_ne hj]) hi
    have e : cntL y (upd q i q') (upd r i r') i = cntL y q r i + d := by rw [← hd]; simp only [cntL, upd_same]
    simp only [e, Nat.mul_add] at this
    rw [h0, h.reg0]
    omega
  · intro j hj hj2 hj3
    by_cases e : j = i
    · subst e; rw [upd_same] at hj2 hj3; exact h1 hj2 hj3
    · rw [upd_ne e, hoth j hj e] at hj2; omega
  · intro j hj hj2
    by_cases e : j = i
    · subst e; rw [upd_same] at hj2; exact h2 hj2
    · rw [upd_ne e, hoth j hj e] at hj2; omega

theorem LI.step {y : Bool} {n t : Nat} (hn : n ≤ 7) (ht : t ≤ 8) {S : Sx} {q r : Nat → Nat} (h : LI y n t S q r) {i : Nat} (hi : i < S.N) (h3 : howS S i = 3) :
    (∃ q' r', LI y n t (stepM S i) q' r') ∧ muS (stepM S i) < muS S := by
  have hin : i < n := h.N ▸ hi
  obtain ⟨hat, _, _⟩ := how_3 h3
  have hbd := h.bound hn ht
  have hb := lb_le y
  have hrg := h.rng i hin
  have hq : q i < t := by
    rw [h.at_ i hin, h.acts i hin, tskL_length] at hat
    rcases hrg.2 with k | ⟨k1, k2⟩
    · exact k
    · rw [k1, k2] at hat; omega
  have hact : (S.tk i).acts[(S.tk i).at_]? = (blkL y i)[r i]? := by
    rw [h.acts i hin, h.at_ i hin]; exact tskL_at y i hrg.1 hq
  have hoth : ∀ j, j < n → j ≠ i → r j = 0 := by
    intro j hj hji
    by_cases e : r j = 0
    · exact e
    · have hlj := (h.lock j hj).1 e
      by_cases e2 : r i = 0
      · have hk : (S.tk i).acts[(S.tk i).at_]? = some ⟨1, 2, 0, 0⟩ := by rw [hact, e2]; rfl
        rw [how_at (h.died i hin) hk, if_pos (.inl ⟨rfl, by show 0 ≤ S.locks 2; omega⟩)] at h3
        cases h3
      · have := (h.lock i hin).1 e2
        omega
  have hsi := h.reg1 i hin
  have hsi2 := h.reg2 i hin
  have h0 := h.reg0
  have hli := h.lock i hin
  have hlr := h.lr
  generalize hr : r i = ρ at hact hrg hsi hsi2 hli
  have hc : ∀ d, q i + (if ρ + 1 + 1 = lb y then 1 else 0) = q i + (if ρ + 1 = lb y then 1 else 0) + d → q i + (if ρ + 1 + 1 = lb y then 1 else 0) = cntL y q r i + d := by
    intro d e; rw [e]; unfold cntL; rw [hr]
  -- each act of the block
  have kLock : ρ = 0 → (∃ q' r', LI y n t (stepM S i) q' r') ∧ muS (stepM S i) < muS S := by
    intro e; subst e
    have hs := stp1 (S := S) (i := i) (a := ⟨1, 2, 0, 0⟩) (by rw [hact]; rfl) rfl
    rw [hs]
    refine ⟨⟨_, _, h.go (q' := q i) (r' := 1) (d := 0) hin hoth (by rfl) (by rfl) (by rw [hr]) (by omega) (by rfl) ?_ (by simp) (by intro; omega) (by intro; omega)⟩, muS_nx rfl rfl hi hat⟩
    exact hc 0 (by rw [if_neg (by omega), if_neg (by omega)])
  have hlk : ρ ≠ 0 → S.locks 2 = (i : Int) := fun e => hli.1 e
  have kCopy : ρ = 1 → (∃ q' r', LI y n t (stepM S i) q' r') ∧ muS (stepM S i) < muS S := by
    intro e; subst e
    have hs := stp9 (S := S) (i := i) (a := ⟨9, 0, 1, 0⟩) (by rw [hact]; rfl) rfl
    rw [hs]
    refine ⟨⟨_, _, h.go (q' := q i) (r' := 2) (d := 0) hin hoth (by rfl) (by rfl) (by rw [hr]) (by omega) (by rw [if_neg (by omega)]; exact hlk (by omega)) ?_ (by simp [upd]) (by intros; rfl) (by intro; omega)⟩, muS_nx rfl rfl hi hat⟩
    exact hc 0 (by rw [if_neg (by omega), if_neg (by omega)])
  have kYield : ρ = 2 → y = true → (∃ q' r', LI y n t (stepM S i) q' r') ∧ muS (stepM S i) < muS S := by
    intro e ey; subst e; subst ey
    have hs := stp11 (S := S) (i := i) (a := ⟨11, 0, 0, 0⟩) (by rw [hact]; rfl) rfl
    rw [hs]
    refine ⟨⟨_, _, h.go (q' := q i) (r' := 3) (d := 0) hin hoth (by rfl) (by rfl) (by rw [hr]) (by simp only [lb]; omega) (by rw [if_neg (by omega)]; exact hlk (by omega)) ?_ (by simp) (by intros; exact hsi (by omega) (by simp [lb])) (by intro e; simp [lb] at e)⟩, muS_nx rfl rfl hi hat⟩
    exact hc 0 (by simp [lb])
  have kAdd : ρ + 3 = lb y → (∃ q' r', LI y n t (stepM S i) q' r') ∧ muS (stepM S i) < muS S := by
    intro e
    have hs := stp8 (S := S) (i := i) (a := ⟨8, 1, 0, (i + 1 : Nat)⟩) (by rw [hact]; cases y <;> (simp only [lb] at e; obtain rfl : ρ = _ := Nat.eq_sub_of_add_eq e; rfl)) rfl
    have hw : IntKind.i64.wrap (S.regs 1 + ((i + 1 : Nat) : Int)) = S.regs 0 + ((i + 1 : Nat) : Int) := by
      rw [hsi (by omega) (by omega)]
      exact IntWalk.i64_in _ (by omega)
    rw [hs]
    refine ⟨⟨_, _, h.go (q' := q i) (r' := ρ + 1) (d := 0) hin hoth (by rfl) (by rfl) (by rw [hr]; rfl) (by omega) (by rw [if_neg (by omega)]; exact hlk (by omega)) ?_ (by simp [upd]) (by intros; omega) ?_⟩, muS_nx rfl rfl hi hat⟩
    · exact hc 0 (by rw [if_neg (by omega), if_neg (by omega)])
    · intro _
      show IntKind.i64.wrap (S.regs 1 + ((i + 1 : Nat) : Int)) = S.regs 0 + _
      exact hw
  have kBack : ρ + 2 = lb y → (∃ q' r', LI y n t (stepM S i) q' r') ∧ muS (stepM S i) < muS S := by
    intro e
    have hs := stp9 (S := S) (i := i) (a := ⟨9, 1, 0, 0⟩) (by rw [hact]; cases y <;> (simp only [lb] at e; obtain rfl : ρ = _ := Nat.eq_sub_of_add_eq e; rfl)) rfl
    rw [hs]
    refine ⟨⟨_, _, h.go (q' := q i) (r' := ρ + 1) (d := 1) hin hoth (by rfl) (by rfl) (by rw [hr]; rfl) (by omega) (by rw [if_neg (by omega)]; exact hlk (by omega)) ?_ ?_ (by intros; omega) (by intro; omega)⟩, muS_nx rfl rfl hi hat⟩
    · exact hc 1 (by rw [if_pos (by omega), if_neg (by omega)])
    · show S.regs 1 = S.regs 0 + _
      rw [Nat.mul_one]; exact hsi2 e
  have kFree : ρ + 1 = lb y → (∃ q' r', LI y n t (stepM S i) q' r') ∧ muS (stepM S i) < muS S := by
    intro e
    have hs := stp2 (S := S) (i := i) (a := ⟨2, 2, 0, 0⟩) (by rw [hact]; cases y <;> (simp only [lb] at e; obtain rfl : ρ = _ := Nat.eq_sub_of_add_eq e; rfl)) rfl (hlk (by omega))
    rw [hs]
    refine ⟨⟨_, _, h.go (q' := q i + 1) (r' := 0) (d := 0) hin hoth (by rfl) (by rfl) (by rw [hr, Nat.mul_succ]; omega) (by omega) (by rfl) ?_ (by simp) (by intros; omega) (by intro; omega)⟩, muS_nx rfl rfl hi hat⟩
    unfold cntL; rw [hr, if_neg (by omega), if_pos e]
  by_cases e0 : ρ = 0
  · exact kLock e0
  by_cases e1 : ρ = 1
  · exact kCopy e1
  by_cases e5 : ρ + 1 = lb y
  · exact kFree e5
  by_cases e4 : ρ + 2 = lb y
  · exact kBack e4
  by_cases e3 : ρ + 3 = lb y
  · exact kAdd e3
  have h6 := hrg.1
  refine kYield (by omega) ?_
  cases y with
  | true => rfl
  | false => simp only [lb] at *; omega

theorem sum_tri (t n : Nat) : sumN (fun j => (j + 1) * t) n * 2 = t * n * (n + 1) := by
  induction n with
  | zero => simp [sumN]
  | succ n ih =>
    rw [sumN, Nat.add_mul, ih]
    grind

theorem blkL_fine {y : Bool} {i len : Nat} : ∀ a ∈ blkL y i, oddA a = false ∧ rightP a len = true := by
  intro a ha
  have h8 : rightP ⟨8, 1, 0, (i + 1 : Nat)⟩ len = true := by simp [rightP, okP, restP, btw]
  cases y <;> simp only [blkL, List.mem_append, List.mem_cons, List.not_mem_nil, or_false, if_true, if_false, Bool.false_eq_true] at ha
  · rcases ha with (rfl | rfl) | rfl | rfl | rfl <;> first | exact ⟨rfl, h8⟩ | exact ⟨rfl, rfl⟩
  · rcases ha with ((rfl | rfl) | rfl) | rfl | rfl | rfl <;> first | exact ⟨rfl, h8⟩ | exact ⟨rfl, rfl⟩
theorem tskL_fine {y : Bool} {i len : Nat} : ∀ {t : Nat}, ∀ a ∈ tskL y i t, oddA a = false ∧ rightP a len = true
  | 0, a, ha => by cases ha
  | t + 1, a, ha => by
    rcases List.mem_append.1 ha with h | h
    · exact tskL_fine a h
    · exact blkL_fine a h

theorem locks_pure (y : Bool) {n t : Nat} {picks : List Int} (n1 : 1 ≤ n) (n7 : n ≤ 7) (t1 : 1 ≤ t) (t8 : t ≤ 8) (hp : picks.length ≤ 3000) (hn : nonneg picks) : LocksOk y n t picks := by
  have hb := lb_le y
  have hlt : lb y * t ≤ 6 * 8 := Nat.mul_le_mul hb.2 t8
  have hI0 : LI y n t (S0 (tsL y n t) 1) (fun _ => 0) (fun _ => 0) := by
    refine ⟨tsL_len y n t, ?_, fun _ _ => rfl, fun _ _ => rfl, fun i hi => ⟨by omega, .inl (by omega)⟩, fun i hi => ⟨fun h => absurd rfl h, fun h => ?_⟩, .inl rfl, ?_, fun i hi h => by omega, fun i hi h => by omega⟩
    · intro i hi
      show (tsL y n t).getD i [] = _
      rw [List.getD_eq_getElem?_getD, tsL, List.getElem?_map, List.getElem?_range hi]; rfl
    · have h' : (-1 : Int) = (i : Int) := h
      omega
    · rw [sumN_congr (g := fun _ => 0) (fun i hi => by simp only [cntL]; rw [if_neg (by omega)]; rfl), sumN_const]; simp [S0]
  have hm : muS (S0 (tsL y n t) 1) ≤ 65536 := by
    have h1 : muS (S0 (tsL y n t) 1) ≤ sumN (fun _ => 6 * 8) n := by
      unfold muS
      rw [hI0.N]
      refine sumN_le fun i hi => ?_
      rw [hI0.acts i hi, tskL_length]; omega
    rw [sumN_const] at h1
    omega
  obtain ⟨⟨q, r, hI⟩, hR⟩ := run_inv (I := fun S => ∃ q r, LI y n t S q r) (m := muS) (fun S i ⟨q, r, h⟩ hi h3 => h.step n7 t8 hi h3) 65536 _ picks ⟨_, _, hI0⟩ hm
  generalize hS : runM 65536 (S0 (tsL y n t) 1) picks = S at hI hR
  have hfin : ∀ i, i < n → q i = t ∧ r i = 0 := by
    have hnr : ∀ i, i < n → r i = 0 := by
      intro i hi
      refine Classical.byContradiction fun e => ?_
      have hrg := hI.rng i hi
      have hq : q i < t := by omega
      have hl := (hI.lock i hi).1 e
      refine rdy_nil hR (by rw [hI.N]; exact hi) ?_
      have hact : (S.tk i).acts[(S.tk i).at_]? = (blkL y i)[r i]? := by rw [hI.acts i hi, hI.at_ i hi]; exact tskL_at y i hrg.1 hq
      have key : ∃ a, (blkL y i)[r i]? = some a ∧ (a.k = 2 ∨ 8 ≤ a.k) := by
        generalize r i = ρ at e hrg
        cases y <;> simp only [lb] at hrg
        · match ρ, e, hrg.1 with
          | 1, _, _ => exact ⟨_, rfl, by simp⟩
          | 2, _, _ => exact ⟨_, rfl, by simp⟩
          | 3, _, _ => exact ⟨_, rfl, by simp⟩
          | 4, _, _ => exact ⟨_, rfl, by simp⟩
        · match ρ, e, hrg.1 with
          | 1, _, _ => exact ⟨_, rfl, by simp⟩
          | 2, _, _ => exact ⟨_, rfl, by simp⟩
          | 3, _, _ => exact ⟨_, rfl, by simp⟩
          | 4, _, _ => exact ⟨_, rfl, by simp⟩
          | 5, _, _ => exact ⟨_, rfl, by simp⟩
      obtain ⟨a, ha, hk⟩ := key
      rw [how_at (hI.died i hi) (hact.trans ha), if_neg (by omega), if_neg (by omega), if_neg (by omega), if_neg (by omega)]
    intro i hi
    refine ⟨Classical.byContradiction fun e => ?_, hnr i hi⟩
    have hrg := hI.rng i hi
    have hq : q i < t := by omega
    have hl : S.locks 2 = -1 := by
      rcases hI.lr with h | ⟨j, hj, h⟩
      · exact h
      · exact absurd (hnr j hj) ((hI.lock j hj).2 h)
    refine rdy_nil hR (by rw [hI.N]; exact hi) ?_
    have hact : (S.tk i).acts[(S.tk i).at_]? = some ⟨1, 2, 0, 0⟩ := by rw [hI.acts i hi, hI.at_ i hi, tskL_at y i hrg.1 hq, hnr i hi]; rfl
    rw [how_at (hI.died i hi) hact, if_neg, if_neg (by simp), if_neg (by simp), if_neg (by simp)]
    rintro (⟨_, h⟩ | ⟨h, _⟩)
    · have h' : (0 : Int) ≤ S.locks 2 := h
      omega
    · simp at h
  refine ⟨?_, ?_, ?_⟩
  · refine asked_of (by rw [tsL_len]; omega) ?_ ?_ (by omega) (by omega) (by omega) (by omega) (by omega) hn
    · intro l hl
      obtain ⟨i, hi, rfl⟩ := List.mem_map.1 hl
      rw [tskL_length]; omega
    · intro l hl a ha
      obtain ⟨i, hi, rfl⟩ := List.mem_map.1 hl
      exact tskL_fine a ha
  · intro i hi
    rw [hS]
    refine how_done (hI.died i hi) ?_
    rw [hI.acts i hi, hI.at_ i hi, tskL_length, (hfin i hi).1, (hfin i hi).2]; omega
  · rw [hS, hI.reg0]
    congr 1
    rw [sumN_congr (g := fun j => (j + 1) * t) (fun i hi => by simp only [cntL]; rw [(hfin i hi).1, (hfin i hi).2, if_neg (by omega)]; rfl)]
    have := sum_tri t n
    omega
end Go.Am.T
