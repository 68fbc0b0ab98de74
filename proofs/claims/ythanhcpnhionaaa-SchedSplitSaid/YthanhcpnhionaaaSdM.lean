/- The walks of the scheduler's functions: asked, Ready. Conditions: those of each theorem. -/
import Derived.Test.YthanhcpnhionaaaSdL
set_option linter.all false
set_option linter.unusedSimpArgs false
set_option linter.unusedVariables false
namespace Go.Am.T
open Go Go.Am Go.Proofs.Ythanhcpnhionaaa Go.Proofs

def askedP (ts : List (List Act)) (room : Int) (picks : List Int) (most : Int) : Int :=
  if mayP ts ≠ 0 then mayP ts else if room < 1 then 1 else if 16 < room then 1 else if most < 0 then 1 else if 65536 < most then 1 else if 65536 < picks.length then 1
  else if picks.any (fun p => decide (p < 0)) then 1 else 0

theorem asked_W {H : Heap} (hw : WF H) {tv pv : Value} {ts : List (List Act)} {av : Nat → Value} (ht : TasksAt H tv ts av) (hN : ts.length ≤ 70368744177664) {room most : Int} {picks : List Int} (hp : RdI H pv (picks.map iv)) :
    CW Try.prog 28 #[tv, .int .i64 room, pv, .int .i64 most] H fun x H' => x = .ret (.int .i64 (askedP ts room picks most)) ∧ Ext H H' := by
  refine CW_k (n := 45) if28 rfl ?_
  unfold C28
  obtain ⟨pa, pc, hpv, _⟩ := id hp
  simp only [List.length_map] at hpv
  simp (config := { implicitDefEqProofs := false, maxDischargeDepth := 6, maxSteps := 1000000 }) only [go_sem, ↓reduceIte, Nat.reduceLT, Nat.reduceLeDiff, Nat.reduceEqDiff, Nat.reduceAdd, Nat.reduceMul, Nat.reduceSub, Nat.reduceBEq, reduceCtorEq, Int.reduceEq, Int.reduceLT, Int.reduceLE, Int.reduceNeg, Int.reduceToNat, ]
  refine CW_mono _ (may_W hw ht hN) ?_
  rintro _ H1 ⟨rfl, hE⟩
  by_cases hm : mayP ts = 0
  case neg =>
    simp (config := { implicitDefEqProofs := false, maxDischargeDepth := 6, maxSteps := 1000000 }) only [go_sem, ↓reduceIte, Nat.reduceLT, Nat.reduceLeDiff, Nat.reduceEqDiff, Nat.reduceAdd, Nat.reduceMul, Nat.reduceSub, Nat.reduceBEq, reduceCtorEq, Int.reduceEq, Int.reduceLT, Int.reduceLE, Int.reduceNeg, Int.reduceToNat, hm]
    exact ⟨by simp [askedP, hm], hE⟩
  by_cases c1 : room < 1
  · simp (config := { implicitDefEqProofs := false, maxDischargeDepth := 6, maxSteps := 1000000 }) only [go_sem, ↓reduceIte, Nat.reduceLT, Nat.reduceLeDiff, Nat.reduceEqDiff, Nat.reduceAdd, Nat.reduceMul, Nat.reduceSub, Nat.reduceBEq, reduceCtorEq, Int.reduceEq, Int.reduceLT, Int.reduceLE, Int.reduceNeg, Int.reduceToNat, hm, c1]
    exact ⟨by simp [askedP, hm, c1], hE⟩
  by_cases c2 : 16 < room
  · simp (config := { implicitDefEqProofs := false, maxDischargeDepth := 6, maxSteps := 1000000 }) only [go_sem, ↓reduceIte, Nat.reduceLT, Nat.reduceLeDiff, Nat.reduceEqDiff, Nat.reduceAdd, Nat.reduceMul, Nat.reduceSub, Nat.reduceBEq, reduceCtorEq, Int.reduceEq, Int.reduceLT, Int.reduceLE, Int.reduceNeg, Int.reduceToNat, hm, c1, c2]
    exact ⟨by simp [askedP, hm, c1, c2], hE⟩
  by_cases c3 : most < 0
  · simp (config := { implicitDefEqProofs := false, maxDischargeDepth := 6, maxSteps := 1000000 }) only [go_sem, ↓reduceIte, Nat.reduceLT, Nat.reduceLeDiff, Nat.reduceEqDiff, Nat.reduceAdd, Nat.reduceMul, Nat.reduceSub, Nat.reduceBEq, reduceCtorEq, Int.reduceEq, Int.reduceLT, Int.reduceLE, Int.reduceNeg, Int.reduceToNat, hm, c1, c2, c3]
    exact ⟨by simp [askedP, hm, c1, c2, c3], hE⟩
  by_cases c4 : 65536 < most
  · simp (config := { implicitDefEqProofs := false, maxDischargeDepth := 6, maxSteps := 1000000 }) only [go_sem, ↓reduceIte, Nat.reduceLT, Nat.reduceLeDiff, Nat.reduceEqDiff, Nat.reduceAdd, Nat.reduceMul, Nat.reduceSub, Nat.reduceBEq, reduceCtorEq, Int.reduceEq, Int.reduceLT, Int.reduceLE, Int.reduceNeg, Int.reduceToNat, hm, c1, c2, c3, c4]
    exact ⟨by simp [askedP, hm, c1, c2, c3, c4], hE⟩
  by_cases c5 : 65536 < picks.length
  · have c5Z : (65536 : Int) < (picks.length : Int) := by omega
    simp (config := { implicitDefEqProofs := false, maxDischargeDepth := 6, maxSteps := 1000000 }) only [go_sem, ↓reduceIte, Nat.reduceLT, Nat.reduceLeDiff, Nat.reduceEqDiff, Nat.reduceAdd, Nat.reduceMul, Nat.reduceSub, Nat.reduceBEq, reduceCtorEq, Int.reduceEq, Int.reduceLT, Int.reduceLE, Int.reduceNeg, Int.reduceToNat, hm, c1, c2, c3, c4, c5Z, hpv, goInt]
    exact ⟨by simp [askedP, hm, c1, c2, c3, c4, c5], hE⟩
  have c5Z : ¬ (65536 : Int) < (picks.length : Int) := by omega
  simp (config := { implicitDefEqProofs := false, maxDischargeDepth := 6, maxSteps := 1000000 }) only [go_sem, ↓reduceIte, Nat.reduceLT, Nat.reduceLeDiff, Nat.reduceEqDiff, Nat.reduceAdd, Nat.reduceMul, Nat.reduceSub, Nat.reduceBEq, reduceCtorEq, Int.reduceEq, Int.reduceLT, Int.reduceLE, Int.reduceNeg, Int.reduceToNat, hm, c1, c2, c3, c4, c5Z, hpv, goInt]
  refine Wk_loopF (fun m f H2 => ∃ k, m = picks.length - k ∧ k ≤ picks.length ∧ f.get 36 = some (.slice pa picks.length pc) ∧ f.get 37 = some (nv picks.length) ∧ f.get 38 = some (nv k) ∧ H2 = H1 ∧ (picks.take k).any (fun p => decide (p < 0)) = false) picks.length ?_ ?_
  · refine ⟨0, by omega, by omega, ?_, ?_, ?_, rfl, rfl⟩
    all_goals simp (config := { implicitDefEqProofs := false, maxDischargeDepth := 6, maxSteps := 1000000 }) only [go_sem, ↓reduceIte, Nat.reduceLT, Nat.reduceLeDiff, Nat.reduceEqDiff, Nat.reduceAdd, Nat.reduceMul, Nat.reduceSub, Nat.reduceBEq, reduceCtorEq, Int.reduceEq, Int.reduceLT, Int.reduceLE, Int.reduceNeg, Int.reduceToNat, nv]
    rfl
  rintro m f H2 ⟨k, rfl, hk, f36, f37, f38, rfl, hall⟩
  unfold L28_1
  by_cases hlt : k < picks.length
  · have hltZ : (k : Int) < (picks.length : Int) := by omega
    have hk0 : (0 : Int) ≤ (k : Int) := by omega
    have hw1 : IntKind.i64.wrap ((k : Int) + 1) = ((k + 1 : Nat) : Int) := IntWalk.i64_in _ (by omega)
    obtain ⟨b, o, c, x, hv, hc, hx, hxk⟩ := hp.at_ (i := k) (by simpa using hlt)
    rw [hpv] at hv
    simp only [Value.slice.injEq, List.length_map, true_and] at hv
    obtain ⟨rfl, rfl⟩ := hv
    simp only [List.getElem_map, iv] at hxk
    have hx1 := hE.of hw hx
    by_cases hn : picks[k] < 0
    · have hany : picks.any (fun p => decide (p < 0)) = true := by
        rw [List.any_eq_true]; exact ⟨picks[k], List.getElem_mem hlt, by simpa using hn⟩
      simp (config := { implicitDefEqProofs := false, maxDischargeDepth := 6, maxSteps := 1000000 }) only [go_sem, ↓reduceIte, Nat.reduceLT, Nat.reduceLeDiff, Nat.reduceEqDiff, Nat.reduceAdd, Nat.reduceMul, Nat.reduceSub, Nat.reduceBEq, reduceCtorEq, Int.reduceEq, Int.reduceLT, Int.reduceLE, Int.reduceNeg, Int.reduceToNat, f36, f37, f38, nv, hltZ, hk0, hc, hx1, hxk, hn]
      refine ⟨?_, hE⟩
      unfold askedP
      rw [if_neg (by simpa using hm), if_neg c1, if_neg c2, if_neg c3, if_neg c4, if_neg c5, if_pos hany]
    · simp (config := { implicitDefEqProofs := false, maxDischargeDepth := 6, maxSteps := 1000000 }) only [go_sem, ↓reduceIte, Nat.reduceLT, Nat.reduceLeDiff, Nat.reduceEqDiff, Nat.reduceAdd, Nat.reduceMul, Nat.reduceSub, Nat.reduceBEq, reduceCtorEq, Int.reduceEq, Int.reduceLT, Int.reduceLE, Int.reduceNeg, Int.reduceToNat, f36, f37, f38, nv, hltZ, hk0, hc, hx1, hxk, hn, hw1]
      refine ⟨picks.length - (k + 1), by omega, k + 1, rfl, by omega, ?_, ?_, ?_, rfl, ?_⟩
      · simp (config := { implicitDefEqProofs := false, maxDischargeDepth := 6, maxSteps := 1000000 }) only [go_sem, ↓reduceIte, Nat.reduceLT, Nat.reduceLeDiff, Nat.reduceEqDiff, Nat.reduceAdd, Nat.reduceMul, Nat.reduceSub, Nat.reduceBEq, reduceCtorEq, Int.reduceEq, Int.reduceLT, Int.reduceLE, Int.reduceNeg, Int.reduceToNat, f36]
      · simp (config := { implicitDefEqProofs := false, maxDischargeDepth := 6, maxSteps := 1000000 }) only [go_sem, ↓reduceIte, Nat.reduceLT, Nat.reduceLeDiff, Nat.reduceEqDiff, Nat.reduceAdd, Nat.reduceMul, Nat.reduceSub, Nat.reduceBEq, reduceCtorEq, Int.reduceEq, Int.reduceLT, Int.reduceLE, Int.reduceNeg, Int.reduceToNat, f37, nv]
      · simp (config := { implicitDefEqProofs := false, maxDischargeDepth := 6, maxSteps := 1000000 }) only [go_sem, ↓reduceIte, Nat.reduceLT, Nat.reduceLeDiff, Nat.reduceEqDiff, Nat.reduceAdd, Nat.reduceMul, Nat.reduceSub, Nat.reduceBEq, reduceCtorEq, Int.reduceEq, Int.reduceLT, Int.reduceLE, Int.reduceNeg, Int.reduceToNat, nv]
      · rw [any_take_succ _ _ hlt, hall]; simpa using hn
  · have hltZ : ¬ (k : Int) < (picks.length : Int) := by omega
    obtain rfl : k = picks.length := by omega
    rw [List.take_length] at hall
    simp (config := { implicitDefEqProofs := false, maxDischargeDepth := 6, maxSteps := 1000000 }) only [go_sem, ↓reduceIte, Nat.reduceLT, Nat.reduceLeDiff, Nat.reduceEqDiff, Nat.reduceAdd, Nat.reduceMul, Nat.reduceSub, Nat.reduceBEq, reduceCtorEq, Int.reduceEq, Int.reduceLT, Int.reduceLE, Int.reduceNeg, Int.reduceToNat, f36, f37, f38, nv, hltZ]
    refine ⟨?_, hE⟩
    unfold askedP
    rw [if_neg (by simpa using hm), if_neg c1, if_neg c2, if_neg c3, if_neg c4, if_neg c5, if_neg (by rw [hall]; simp)]

/- what is asked may be -/
structure Fine (ts : List (List Act)) (room : Int) (picks : List Int) (most : Int) : Prop where
  n : ts.length ≤ 16
  len : ∀ l ∈ ts, l.length ≤ 256
  valid : ∀ l ∈ ts, ∀ a ∈ l, Valid l.length a
  r1 : 1 ≤ room
  r2 : room ≤ 16
  m1 : 0 ≤ most
  m2 : most ≤ 65536
  p : picks.length ≤ 65536
  pos : ∀ p ∈ picks, 0 ≤ p

theorem btw_iff {z m : Int} : btw z m = true ↔ 0 ≤ z ∧ z < m := by simp [btw]
theorem valid_of {a : Act} {len : Nat} (ho : oddA a = false) (hr : wrA len a = false) : Valid len a := by
  unfold oddA at ho
  simp only [Bool.or_eq_false_iff, decide_eq_false_iff_not, Int.not_lt] at ho
  unfold wrA rightP at hr
  simp only [Bool.not_eq_false', Bool.and_eq_true] at hr
  obtain ⟨hr, hr2⟩ := hr
  unfold okP at hr
  unfold restP at hr2
  refine ⟨by omega, by omega, fun h => ?_, fun h => ?_, fun h => ?_, fun h => ?_, fun h => ?_, fun h => ?_⟩
  · by_cases c1 : a.k = 1 ∨ a.k = 2 ∨ a.k = 4 ∨ a.k = 5
    · rw [if_pos c1] at hr; exact btw_iff.1 hr
    · rw [if_neg c1] at hr
      by_cases c3 : a.k = 3
      · rw [if_pos c3, Bool.and_eq_true] at hr; exact btw_iff.1 hr.1
      · rw [if_neg c3] at hr
        by_cases c6 : a.k = 6
        · rw [if_pos c6] at hr; exact btw_iff.1 hr
        · rw [if_neg c6, if_pos (by omega), Bool.and_eq_true] at hr; exact btw_iff.1 hr.1
  · rw [if_neg (by omega), if_neg (by omega), if_neg (by omega), if_neg (by omega)] at hr
    by_cases c8 : a.k = 8
    · rw [if_pos c8] at hr; exact btw_iff.1 hr
    · rw [if_neg c8] at hr
      by_cases c9 : a.k = 9
      · rw [if_pos c9, Bool.and_eq_true] at hr; exact btw_iff.1 hr.1
      · rw [if_neg c9, if_pos (by omega), Bool.and_eq_true, Bool.and_eq_true] at hr; exact btw_iff.1 hr.1.1
  · rw [if_neg (by omega), if_pos h, Bool.and_eq_true] at hr; exact btw_iff.1 hr.2
  · by_cases c7 : a.k = 7
    · rw [if_neg (by omega), if_neg (by omega), if_neg (by omega), if_pos c7, Bool.and_eq_true] at hr; exact btw_iff.1 hr.2
    · rw [if_neg (by omega), if_neg (by omega), if_neg (by omega), if_neg (by omega), if_neg (by omega), if_pos (by omega), Bool.and_eq_true] at hr; exact btw_iff.1 hr.2
  · rw [if_neg (by omega), if_neg (by omega), if_neg (by omega), if_neg (by omega), if_neg (by omega), if_neg (by omega), if_pos h, Bool.and_eq_true, Bool.and_eq_true] at hr
    exact ⟨by simpa using hr.1.2, by simpa using hr.2⟩
  · rw [if_neg (by omega), if_neg (by omega), if_neg (by omega), if_neg (by omega), if_neg (by omega), if_neg (by omega), if_neg (by omega), if_pos h, Bool.and_eq_true] at hr
    exact ⟨by simpa using hr.1, by simpa using hr.2⟩

theorem may_ok {ts : List (List Act)} (h : mayP ts = 0) : ts.length ≤ 16 ∧ (∀ l ∈ ts, l.length ≤ 256) ∧ ∀ l ∈ ts, ∀ a ∈ l, Valid l.length a := by
  unfold mayP at h
  by_cases c1 : 16 < ts.length
  · rw [if_pos c1] at h; cases h
  rw [if_neg c1] at h
  by_cases c2 : ts.any (fun l => decide (256 < l.length)) = true
  · rw [if_pos c2] at h; cases h
  rw [if_neg c2] at h
  by_cases c3 : ts.any oddL = true
  · rw [if_pos c3] at h; cases h
  rw [if_neg c3] at h
  by_cases c4 : ts.any wrL = true
  · rw [if_pos c4] at h; cases h
  refine ⟨by omega, fun l hl => ?_, fun l hl a ha => ?_⟩
  · simp only [List.any_eq_true, decide_eq_true_eq, not_exists, not_and, Nat.not_lt] at c2; exact c2 l hl
  · simp only [List.any_eq_true, not_exists, not_and, oddL, wrL, Bool.not_eq_true] at c3 c4
    exact valid_of (c3 l hl a ha) (c4 l hl a ha)

theorem asked_ok {ts : List (List Act)} {room most : Int} {picks : List Int} (h : askedP ts room picks most = 0) : Fine ts room picks most := by
  unfold askedP at h
  by_cases c0 : mayP ts = 0
  case neg => rw [if_pos (by simpa using c0)] at h; exact absurd h c0
  rw [if_neg (by simpa using c0)] at h
  by_cases c1 : room < 1
  · rw [if_pos c1] at h; cases h
  rw [if_neg c1] at h
  by_cases c2 : 16 < room
  · rw [if_pos c2] at h; cases h
  rw [if_neg c2] at h
  by_cases c3 : most < 0
  · rw [if_pos c3] at h; cases h
  rw [if_neg c3] at h
  by_cases c4 : 65536 < most
  · rw [if_pos c4] at h; cases h
  rw [if_neg c4] at h
  by_cases c5 : 65536 < picks.length
  · rw [if_pos c5] at h; cases h
  rw [if_neg c5] at h
  by_cases c6 : picks.any (fun p => decide (p < 0)) = true
  · rw [if_pos c6] at h; cases h
  obtain ⟨h1, h2, h3⟩ := may_ok c0
  refine ⟨h1, h2, h3, by omega, by omega, by omega, by omega, by omega, fun p hp => ?_⟩
  simp only [List.any_eq_true, decide_eq_true_eq, not_exists, not_and, Int.not_lt] at c6
  exact c6 p hp

theorem Fine.okR {ts : List (List Act)} {room most : Int} {picks : List Int} (h : Fine ts room picks most) : OkR (S0 ts room) := by
  have hg : ∀ i, i < ts.length → ts.getD i [] ∈ ts := by intro i hi; rw [List.getD_eq_getElem?_getD, List.getElem?_eq_getElem hi]; exact List.getElem_mem hi
  refine ⟨fun i hi k hk => ?_, fun j hj i hi => ?_, fun i hi => ?_, ?_, fun j => Nat.le_refl _, fun j => Nat.le_refl _⟩
  · exact h.valid _ (hg i hi) _ (List.getElem_mem hk)
  · cases hi
  · exact Nat.le_trans (h.len _ (hg i hi)) (by omega)
  · show ts.length ≤ 65536
    have := h.n; omega
end Go.Am.T
