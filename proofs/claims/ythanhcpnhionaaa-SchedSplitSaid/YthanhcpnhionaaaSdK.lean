/- The walks of the scheduler's functions: right, May. Conditions: those of each theorem. -/
import Derived.Test.YthanhcpnhionaaaSdJ
set_option linter.all false
set_option linter.unusedSimpArgs false
set_option linter.unusedVariables false
namespace Go.Am.T
open Go Go.Am Go.Proofs.Ythanhcpnhionaaa Go.Proofs

def eqChain : List Bool → Option Bool
  | [] => some true
  | b :: bs => match b with | true => eqChain bs | false => some false
theorem eqChain_eq (l : List Bool) : eqChain l = some (l.all id) := by
  induction l with
  | nil => rfl
  | cons b l ih => cases b <;> simp [eqChain, ih]
theorem eqA_47 {a b c d a' b' c' d' : Int} : equalA Try.prog 47 (.agg #[.int .i64 a, .int .i64 b, .int .i64 c, .int .i64 d]) (.agg #[.int .i64 a', .int .i64 b', .int .i64 c', .int .i64 d']) = eqChain [a == a', b == b', c == c', d == d'] := by kernel_rfl
theorem eqA_39 {a b a' b' : Int} : equalA Try.prog 39 (.agg #[.int .i64 a, .int .i64 b]) (.agg #[.int .i64 a', .int .i64 b']) = eqChain [a == a', b == b'] := by kernel_rfl
theorem eqA_49 {a b a' b' : Int} : equalA Try.prog 49 (.agg #[.int .i64 a, .int .i64 b]) (.agg #[.int .i64 a', .int .i64 b']) = eqChain [a == a', b == b'] := by kernel_rfl
@[go_sem] theorem eq_47 {a b c d a' b' c' d' : Int} : binA Try.prog .eql 47 (.agg #[.int .i64 a, .int .i64 b, .int .i64 c, .int .i64 d]) (.agg #[.int .i64 a', .int .i64 b', .int .i64 c', .int .i64 d']) = some (.bool (decide (a = a') && (decide (b = b') && (decide (c = c') && decide (d = d'))))) := by
  show (equalA Try.prog 47 _ _).map Value.bool = _
  rw [eqA_47, eqChain_eq]
  simp; rfl
@[go_sem] theorem ne_47 {a b c d a' b' c' d' : Int} : binA Try.prog .neq 47 (.agg #[.int .i64 a, .int .i64 b, .int .i64 c, .int .i64 d]) (.agg #[.int .i64 a', .int .i64 b', .int .i64 c', .int .i64 d']) = some (.bool !(decide (a = a') && (decide (b = b') && (decide (c = c') && decide (d = d'))))) := by
  show (equalA Try.prog 47 _ _).map (fun r => Value.bool !r) = _
  rw [eqA_47, eqChain_eq]
  simp; rfl
@[go_sem] theorem ne_39 {a b a' b' : Int} : binA Try.prog .neq 39 (.agg #[.int .i64 a, .int .i64 b]) (.agg #[.int .i64 a', .int .i64 b']) = some (.bool !(decide (a = a') && decide (b = b'))) := by
  show (equalA Try.prog 39 _ _).map (fun r => Value.bool !r) = _
  rw [eqA_39, eqChain_eq]
  simp; rfl
@[go_sem] theorem ne_49 {a b a' b' : Int} : binA Try.prog .neq 49 (.agg #[.int .i64 a, .int .i64 b]) (.agg #[.int .i64 a', .int .i64 b']) = some (.bool !(decide (a = a') && decide (b = b'))) := by
  show (equalA Try.prog 49 _ _).map (fun r => Value.bool !r) = _
  rw [eqA_49, eqChain_eq]
  simp; rfl
@[go_sem] theorem eq_49 {a b a' b' : Int} : binA Try.prog .eql 49 (.agg #[.int .i64 a, .int .i64 b]) (.agg #[.int .i64 a', .int .i64 b']) = some (.bool (decide (a = a') && decide (b = b'))) := by
  show (equalA Try.prog 49 _ _).map Value.bool = _
  rw [eqA_49, eqChain_eq]
  simp; rfl

def btw (z m : Int) : Bool := decide (0 ≤ z) && decide (z < m)
theorem between_W {H : Heap} {z m : Int} : CW Try.prog 35 #[.int .i64 z, .int .i64 m] H fun x H' => x = .ret (.bool (btw z m)) ∧ H = H' := by
  refine CW_k (n := 12) if35 rfl ?_
  unfold C35
  by_cases h : 0 ≤ z
  · simp (config := { implicitDefEqProofs := false, maxDischargeDepth := 6, maxSteps := 1000000 }) only [go_sem, ↓reduceIte, Nat.reduceLT, Nat.reduceLeDiff, Nat.reduceEqDiff, Nat.reduceAdd, Nat.reduceMul, Nat.reduceSub, Nat.reduceBEq, reduceCtorEq, Int.reduceEq, Int.reduceLT, Int.reduceLE, Int.reduceNeg, Int.reduceToNat, h, btw]
  · simp (config := { implicitDefEqProofs := false, maxDischargeDepth := 6, maxSteps := 1000000 }) only [go_sem, ↓reduceIte, Nat.reduceLT, Nat.reduceLeDiff, Nat.reduceEqDiff, Nat.reduceAdd, Nat.reduceMul, Nat.reduceSub, Nat.reduceBEq, reduceCtorEq, Int.reduceEq, Int.reduceLT, Int.reduceLE, Int.reduceNeg, Int.reduceToNat, h, btw]

theorem use_W {H : Heap} {b c o : Nat} {cs : List Value} {z m : Int} {ok : Bool} (hbb : base0 ≤ b) (hcb : base0 ≤ c) (hbc : b ≠ c) (hb : H.get b = some ⟨47, 0, false, cs⟩) (ho : cs[o]? = some (.int .i64 z)) (hc : H.get c = some ⟨4, 0, false, [.bool ok]⟩) :
    CW Try.prog 34 #[.pointer (some ⟨b, o, none⟩), .int .i64 m, .pointer (some ⟨c, 0, none⟩)] H fun x H' => x = .ret (.tuple #[]) ∧ (H.set c ⟨4, 0, false, [.bool (ok && btw z m)]⟩).set b ⟨47, 0, false, cs.set o (.int .i64 0)⟩ = H' := by
  refine CW_k (n := 15) if34 rfl ?_
  unfold C34
  have hol : o < cs.length := (List.getElem?_eq_some_iff.1 ho).1
  cases ok with
  | false => simp (config := { implicitDefEqProofs := false, maxDischargeDepth := 6, maxSteps := 1000000 }) only [go_sem, ↓reduceIte, Nat.reduceLT, Nat.reduceLeDiff, Nat.reduceEqDiff, Nat.reduceAdd, Nat.reduceMul, Nat.reduceSub, Nat.reduceBEq, reduceCtorEq, Int.reduceEq, Int.reduceLT, Int.reduceLE, Int.reduceNeg, Int.reduceToNat, hb, hc, ho, hbb, hcb, hbc, hol]
  | true =>
    simp (config := { implicitDefEqProofs := false, maxDischargeDepth := 6, maxSteps := 1000000 }) only [go_sem, ↓reduceIte, Nat.reduceLT, Nat.reduceLeDiff, Nat.reduceEqDiff, Nat.reduceAdd, Nat.reduceMul, Nat.reduceSub, Nat.reduceBEq, reduceCtorEq, Int.reduceEq, Int.reduceLT, Int.reduceLE, Int.reduceNeg, Int.reduceToNat, hb, hc, ho, hbb, hcb, hbc, hol]
    refine CW_mono _ between_W ?_
    rintro _ _ ⟨rfl, rfl⟩
    simp (config := { implicitDefEqProofs := false, maxDischargeDepth := 6, maxSteps := 1000000 }) only [go_sem, ↓reduceIte, Nat.reduceLT, Nat.reduceLeDiff, Nat.reduceEqDiff, Nat.reduceAdd, Nat.reduceMul, Nat.reduceSub, Nat.reduceBEq, reduceCtorEq, Int.reduceEq, Int.reduceLT, Int.reduceLE, Int.reduceNeg, Int.reduceToNat, hb, hc, ho, hbb, hcb, hbc, hol]

def okP (a : Act) (len : Nat) : Bool :=
  if a.k = 1 ∨ a.k = 2 ∨ a.k = 4 ∨ a.k = 5 then btw a.a 4
  else if a.k = 3 then btw a.a 4 && btw a.b 4
  else if a.k = 6 then btw a.a 4
  else if a.k = 7 then btw a.a 4 && btw a.b 8
  else if a.k = 8 then btw a.a 8
  else if a.k = 9 then btw a.a 8 && btw a.b 8
  else if a.k = 10 then btw a.a 8 && decide (0 ≤ a.n) && decide (a.n ≤ 255)
  else if a.k = 13 then decide (0 ≤ a.n) && decide (a.n ≤ (len : Int))
  else true
def restP (a : Act) : Bool :=
  if a.k = 1 ∨ a.k = 2 ∨ a.k = 4 ∨ a.k = 5 then decide (a.b = 0) && decide (a.n = 0)
  else if a.k = 3 then decide (a.n = 0)
  else if a.k = 6 then decide (a.b = 0)
  else if a.k = 7 then decide (a.n = 0)
  else if a.k = 8 then decide (a.b = 0)
  else if a.k = 9 then decide (a.n = 0)
  else if a.k = 10 then decide (a.b = 0)
  else if a.k = 12 ∨ a.k = 13 then decide (a.a = 0) && decide (a.b = 0)
  else decide (a.a = 0) && (decide (a.b = 0) && decide (a.n = 0))
def rightP (a : Act) (len : Nat) : Bool := okP a len && restP a

theorem right_1 {H : Heap} (hw : WF H) {a : Act} {len : Nat} (hl : len ≤ 65536) (hk : a.k = 1) : CW Try.prog 20 #[.agg a.cells.toArray, nv len] H fun x H' => x = .ret (.bool (rightP a len)) ∧ Ext H H' := by
  refine CW_k (n := 98) if20 rfl ?_
  unfold C20
  have hnb := hw.1
  simp (config := { implicitDefEqProofs := false, maxDischargeDepth := 6, maxSteps := 1000000 }) only [go_sem, ↓reduceIte, Nat.reduceLT, Nat.reduceLeDiff, Nat.reduceEqDiff, Nat.reduceAdd, Nat.reduceMul, Nat.reduceSub, Nat.reduceBEq, reduceCtorEq, Int.reduceEq, Int.reduceLT, Int.reduceLE, Int.reduceNeg, Int.reduceToNat, hnb, loads_eq, Act.cells]
  have hEG := (((((Ext.refl hw).alloc (⟨47, 0, false, [.int .i64 a.k, .int .i64 a.a, .int .i64 a.b, .int .i64 a.n]⟩ : Blk)).alloc (⟨47, 0, false, [.int .i64 0, .int .i64 0, .int .i64 0, .int .i64 0]⟩ : Blk)).set (b := H.next + 1) (by omega) (by simp only [next_alloc]; omega) (⟨47, 0, false, [.int .i64 0, .int .i64 a.a, .int .i64 a.b, .int .i64 a.n]⟩ : Blk)).alloc
    (⟨4, 0, false, [.bool false]⟩ : Blk)).set (b := H.next + 1 + 1) (by omega) (by simp only [next_alloc, next_set]; omega) (⟨4, 0, false, [.bool true]⟩ : Blk)
  generalize hG : (Heap.set (Heap.alloc _ _) _ _) = G at hEG ⊢
  have hP : G.get H.next = some ⟨47, 0, false, [.int .i64 a.k, .int .i64 a.a, .int .i64 a.b, .int .i64 a.n]⟩ := by rw [← hG]; simp (config := { implicitDefEqProofs := false, maxDischargeDepth := 6, maxSteps := 1000000 }) only [go_sem, ↓reduceIte, Nat.reduceLT, Nat.reduceLeDiff, Nat.reduceEqDiff, Nat.reduceAdd, Nat.reduceMul, Nat.reduceSub, Nat.reduceBEq, reduceCtorEq, Int.reduceEq, Int.reduceLT, Int.reduceLE, Int.reduceNeg, Int.reduceToNat, hnb]
  have hR : G.get (H.next + 1) = some ⟨47, 0, false, [.int .i64 0, .int .i64 a.a, .int .i64 a.b, .int .i64 a.n]⟩ := by rw [← hG]; simp (config := { implicitDefEqProofs := false, maxDischargeDepth := 6, maxSteps := 1000000 }) only [go_sem, ↓reduceIte, Nat.reduceLT, Nat.reduceLeDiff, Nat.reduceEqDiff, Nat.reduceAdd, Nat.reduceMul, Nat.reduceSub, Nat.reduceBEq, reduceCtorEq, Int.reduceEq, Int.reduceLT, Int.reduceLE, Int.reduceNeg, Int.reduceToNat, hnb]
  have hC : G.get (H.next + 1 + 1) = some ⟨4, 0, false, [.bool true]⟩ := by rw [← hG]; simp (config := { implicitDefEqProofs := false, maxDischargeDepth := 6, maxSteps := 1000000 }) only [go_sem, ↓reduceIte, Nat.reduceLT, Nat.reduceLeDiff, Nat.reduceEqDiff, Nat.reduceAdd, Nat.reduceMul, Nat.reduceSub, Nat.reduceBEq, reduceCtorEq, Int.reduceEq, Int.reduceLT, Int.reduceLE, Int.reduceNeg, Int.reduceToNat, hnb]
  have hnx : H.next + 1 + 1 < G.next := hEG.wf.lt hC
  clear hG
  have hb1 : base0 ≤ H.next + 1 := by omega
  have hb2 : base0 ≤ H.next + 1 + 1 := by omega
  have hb3 : H.next + 1 ≠ H.next + 1 + 1 := by omega
  have hb4 : H.next + 1 + 1 ≠ H.next + 1 := by omega
  skip <;> cases hu0 : btw a.a 4
  all_goals
    simp (config := { implicitDefEqProofs := false, maxDischargeDepth := 6, maxSteps := 1000000 }) only [go_sem, ↓reduceIte, Nat.reduceLT, Nat.reduceLeDiff, Nat.reduceEqDiff, Nat.reduceAdd, Nat.reduceMul, Nat.reduceSub, Nat.reduceBEq, reduceCtorEq, Int.reduceEq, Int.reduceLT, Int.reduceLE, Int.reduceNeg, Int.reduceToNat, hk, hnb, hP, hR, hC, hb1, hb2, hb3, hb4, loads_eq, nv, hu0]
    refine CW_mono _ (use_W (cs := [.int .i64 0, .int .i64 a.a, .int .i64 a.b, .int .i64 a.n]) (z := a.a) (ok := true) hb1 hb2 hb3 (by simp (config := { implicitDefEqProofs := false, maxDischargeDepth := 6, maxSteps := 1000000 }) only [go_sem, ↓reduceIte, Nat.reduceLT, Nat.reduceLeDiff, Nat.reduceEqDiff, Nat.reduceAdd, Nat.reduceMul, Nat.reduceSub, Nat.reduceBEq, reduceCtorEq, Int.reduceEq, Int.reduceLT, Int.reduceLE, Int.reduceNeg, Int.reduceToNat, hnb, hP, hR, hC, hb1, hb2, hb3, hb4, loads_eq, nv, hu0]) rfl (by simp (config := { implicitDefEqProofs := false, maxDischargeDepth := 6, maxSteps := 1000000 }) only [go_sem, ↓reduceIte, Nat.reduceLT, Nat.reduceLeDiff, Nat.reduceEqDiff, Nat.reduceAdd, Nat.reduceMul, Nat.reduceSub, Nat.reduceBEq, reduceCtorEq, Int.reduceEq, Int.reduceLT, Int.reduceLE, Int.reduceNeg, Int.reduceToNat, hnb, hP, hR, hC, hb1, hb2, hb3, hb4, loads_eq, nv, hu0])) ?_
    rintro _ _ ⟨rfl, rfl⟩
    simp (config := { implicitDefEqProofs := false, maxDischargeDepth := 6, maxSteps := 1000000 }) only [go_sem, ↓reduceIte, Nat.reduceLT, Nat.reduceLeDiff, Nat.reduceEqDiff, Nat.reduceAdd, Nat.reduceMul, Nat.reduceSub, Nat.reduceBEq, reduceCtorEq, Int.reduceEq, Int.reduceLT, Int.reduceLE, Int.reduceNeg, Int.reduceToNat, hk, hnb, hP, hR, hC, hb1, hb2, hb3, hb4, loads_eq, nv, hu0]
    refine ⟨by simp [rightP, okP, restP, hk, hu0], ?_⟩
    repeat (first | exact hEG | refine Ext.set ?_ (by omega) (by (try simp only [next_set]); omega) _)

theorem right_2 {H : Heap} (hw : WF H) {a : Act} {len : Nat} (hl : len ≤ 65536) (hk : a.k = 2) : CW Try.prog 20 #[.agg a.cells.toArray, nv len] H fun x H' => x = .ret (.bool (rightP a len)) ∧ Ext H H' := by
  refine CW_k (n := 98) if20 rfl ?_
  unfold C20
  have hnb := hw.1
  simp (config := { implicitDefEqProofs := false, maxDischargeDepth := 6, maxSteps := 1000000 }) only [go_sem, ↓reduceIte, Nat.reduceLT, Nat.reduceLeDiff, Nat.reduceEqDiff, Nat.reduceAdd, Nat.reduceMul, Nat.reduceSub, Nat.reduceBEq, reduceCtorEq, Int.reduceEq, Int.reduceLT, Int.reduceLE, Int.reduceNeg, Int.reduceToNat, hnb, loads_eq, Act.cells]
  have hEG := (((((Ext.refl hw).alloc (⟨47, 0, false, [.int .i64 a.k, .int .i64 a.a, .int .i64 a.b, .int .i64 a.n]⟩ : Blk)).alloc (⟨47, 0, false, [.int .i64 0, .int .i64 0, .int .i64 0, .int .i64 0]⟩ : Blk)).set (b := H.next + 1) (by omega) (by simp only [next_alloc]; omega) (⟨47, 0, false, [.int .i64 0, .int .i64 a.a, .int .i64 a.b, .int .i64 a.n]⟩ : Blk)).alloc
    (⟨4, 0, false, [.bool false]⟩ : Blk)).set (b := H.next + 1 + 1) (by omega) (by simp only [next_alloc, next_set]; omega) (⟨4, 0, false, [.bool true]⟩ : Blk)
  generalize hG : (Heap.set (Heap.alloc _ _) _ _) = G at hEG ⊢
  have hP : G.get H.next = some ⟨47, 0, false, [.int .i64 a.k, .int .i64 a.a, .int .i64 a.b, .int .i64 a.n]⟩ := by rw [← hG]; simp (config := { implicitDefEqProofs := false, maxDischargeDepth := 6, maxSteps := 1000000 }) only [go_sem, ↓reduceIte, Nat.reduceLT, Nat.reduceLeDiff, Nat.reduceEqDiff, Nat.reduceAdd, Nat.reduceMul, Nat.reduceSub, Nat.reduceBEq, reduceCtorEq, Int.reduceEq, Int.reduceLT, Int.reduceLE, Int.reduceNeg, Int.reduceToNat, hnb]
  have hR : G.get (H.next + 1) = some ⟨47, 0, false, [.int .i64 0, .int .i64 a.a, .int .i64 a.b, .int .i64 a.n]⟩ := by rw [← hG]; simp (config := { implicitDefEqProofs := false, maxDischargeDepth := 6, maxSteps := 1000000 }) only [go_sem, ↓reduceIte, Nat.reduceLT, Nat.reduceLeDiff, Nat.reduceEqDiff, Nat.reduceAdd, Nat.reduceMul, Nat.reduceSub, Nat.reduceBEq, reduceCtorEq, Int.reduceEq, Int.reduceLT, Int.reduceLE, Int.reduceNeg, Int.reduceToNat, hnb]
  have hC : G.get (H.next + 1 + 1) = some ⟨4, 0, false, [.bool true]⟩ := by rw [← hG]; simp (config := { implicitDefEqProofs := false, maxDischargeDepth := 6, maxSteps := 1000000 }) only [go_sem, ↓reduceIte, Nat.reduceLT, Nat.reduceLeDiff, Nat.reduceEqDiff, Nat.reduceAdd, Nat.reduceMul, Nat.reduceSub, Nat.reduceBEq, reduceCtorEq, Int.reduceEq, Int.reduceLT, Int.reduceLE, Int.reduceNeg, Int.reduceToNat, hnb]
  have hnx : H.next + 1 + 1 < G.next := hEG.wf.lt hC
  clear hG
  have hb1 : base0 ≤ H.next + 1 := by omega
  have hb2 : base0 ≤ H.next + 1 + 1 := by omega
  have hb3 : H.next + 1 ≠ H.next + 1 + 1 := by omega
  have hb4 : H.next + 1 + 1 ≠ H.next + 1 := by omega
  skip <;> cases hu0 : btw a.a 4
  all_goals
    simp (config := { implicitDefEqProofs := false, maxDischargeDepth := 6, maxSteps := 1000000 }) only [go_sem, ↓reduceIte, Nat.reduceLT, Nat.reduceLeDiff, Nat.reduceEqDiff, Nat.reduceAdd, Nat.reduceMul, Nat.reduceSub, Nat.reduceBEq, reduceCtorEq, Int.reduceEq, Int.reduceLT, Int.reduceLE, Int.reduceNeg, Int.reduceToNat, hk, hnb, hP, hR, hC, hb1, hb2, hb3, hb4, loads_eq, nv, hu0]
    refine CW_mono _ (use_W (cs := [.int .i64 0, .int .i64 a.a, .int .i64 a.b, .int .i64 a.n]) (z := a.a) (ok := true) hb1 hb2 hb3 (by simp (config := { implicitDefEqProofs := false, maxDischargeDepth := 6, maxSteps := 1000000 }) only [go_sem, ↓reduceIte, Nat.reduceLT, Nat.reduceLeDiff, Nat.reduceEqDiff, Nat.reduceAdd, Nat.reduceMul, Nat.reduceSub, Nat.reduceBEq, reduceCtorEq, Int.reduceEq, Int.reduceLT, Int.reduceLE, Int.reduceNeg, Int.reduceToNat, hnb, hP, hR, hC, hb1, hb2, hb3, hb4, loads_eq, nv, hu0]) rfl (by simp (config := { implicitDefEqProofs := false, maxDischargeDepth := 6, maxSteps := 1000000 }) only [go_sem, ↓reduceIte, Nat.reduceLT, Nat.reduceLeDiff, Nat.reduceEqDiff, Nat.reduceAdd, Nat.reduceMul, Nat.reduceSub, Nat.reduceBEq, reduceCtorEq, Int.reduceEq, Int.reduceLT, Int.reduceLE, Int.reduceNeg, Int.reduceToNat, hnb, hP, hR, hC, hb1, hb2, hb3, hb4, loads_eq, nv, hu0])) ?_
    rintro _ _ ⟨rfl, rfl⟩
    simp (config := { implicitDefEqProofs := false, maxDischargeDepth := 6, maxSteps := 1000000 }) only [go_sem, ↓reduceIte, Nat.reduceLT, Nat.reduceLeDiff, Nat.reduceEqDiff, Nat.reduceAdd, Nat.reduceMul, Nat.reduceSub, Nat.reduceBEq, reduceCtorEq, Int.reduceEq, Int.reduceLT, Int.reduceLE, Int.reduceNeg, Int.reduceToNat, hk, hnb, hP, hR, hC, hb1, hb2, hb3, hb4, loads_eq, nv, hu0]
    refine ⟨by simp [rightP, okP, restP, hk, hu0], ?_⟩
    repeat (first | exact hEG | refine Ext.set ?_ (by omega) (by (try simp only [next_set]); omega) _)

theorem right_4 {H : Heap} (hw : WF H) {a : Act} {len : Nat} (hl : len ≤ 65536) (hk : a.k = 4) : CW Try.prog 20 #[.agg a.cells.toArray, nv len] H fun x H' => x = .ret (.bool (rightP a len)) ∧ Ext H H' := by
  refine CW_k (n := 98) if20 rfl ?_
  unfold C20
  have hnb := hw.1
  simp (config := { implicitDefEqProofs := false, maxDischargeDepth := 6, maxSteps := 1000000 }) only [go_sem, ↓reduceIte, Nat.reduceLT, Nat.reduceLeDiff, Nat.reduceEqDiff, Nat.reduceAdd, Nat.reduceMul, Nat.reduceSub, Nat.reduceBEq, reduceCtorEq, Int.reduceEq, Int.reduceLT, Int.reduceLE, Int.reduceNeg, Int.reduceToNat, hnb, loads_eq, Act.cells]
  have hEG := (((((Ext.refl hw).alloc (⟨47, 0, false, [.int .i64 a.k, .int .i64 a.a, .int .i64 a.b, .int .i64 a.n]⟩ : Blk)).alloc (⟨47, 0, false, [.int .i64 0, .int .i64 0, .int .i64 0, .int .i64 0]⟩ : Blk)).set (b := H.next + 1) (by omega) (by simp only [next_alloc]; omega) (⟨47, 0, false, [.int .i64 0, .int .i64 a.a, .int .i64 a.b, .int .i64 a.n]⟩ : Blk)).alloc
    (⟨4, 0, false, [.bool false]⟩ : Blk)).set (b := H.next + 1 + 1) (by omega) (by simp only [next_alloc, next_set]; omega) (⟨4, 0, false, [.bool true]⟩ : Blk)
  generalize hG : (Heap.set (Heap.alloc _ _) _ _) = G at hEG ⊢
  have hP : G.get H.next = some ⟨47, 0, false, [.int .i64 a.k, .int .i64 a.a, .int .i64 a.b, .int .i64 a.n]⟩ := by rw [← hG]; simp (config := { implicitDefEqProofs := false, maxDischargeDepth := 6, maxSteps := 1000000 }) only [go_sem, ↓reduceIte, Nat.reduceLT, Nat.reduceLeDiff, Nat.reduceEqDiff, Nat.reduceAdd, Nat.reduceMul, Nat.reduceSub, Nat.reduceBEq, reduceCtorEq, Int.reduceEq, Int.reduceLT, Int.reduceLE, Int.reduceNeg, Int.reduceToNat, hnb]
  have hR : G.get (H.next + 1) = some ⟨47, 0, false, [.int .i64 0, .int .i64 a.a, .int .i64 a.b, .int .i64 a.n]⟩ := by rw [← hG]; simp (config := { implicitDefEqProofs := false, maxDischargeDepth := 6, maxSteps := 1000000 }) only [go_sem, ↓reduceIte, Nat.reduceLT, Nat.reduceLeDiff, Nat.reduceEqDiff, Nat.reduceAdd, Nat.reduceMul, Nat.reduceSub, Nat.reduceBEq, reduceCtorEq, Int.reduceEq, Int.reduceLT, Int.reduceLE, Int.reduceNeg, Int.reduceToNat, hnb]
  have hC : G.get (H.next + 1 + 1) = some ⟨4, 0, false, [.bool true]⟩ := by rw [← hG]; simp (config := { implicitDefEqProofs := false, maxDischargeDepth := 6, maxSteps := 1000000 }) only [go_sem, ↓reduceIte, Nat.reduceLT, Nat.reduceLeDiff, Nat.reduceEqDiff, Nat.reduceAdd, Nat.reduceMul, Nat.reduceSub, Nat.reduceBEq, reduceCtorEq, Int.reduceEq, Int.reduceLT, Int.reduceLE, Int.reduceNeg, Int.reduceToNat, hnb]
  have hnx : H.next + 1 + 1 < G.next := hEG.wf.lt hC
  clear hG
  have hb1 : base0 ≤ H.next + 1 := by omega
  have hb2 : base0 ≤ H.next + 1 + 1 := by omega
  have hb3 : H.next + 1 ≠ H.next + 1 + 1 := by omega
  have hb4 : H.next + 1 + 1 ≠ H.next + 1 := by omega
  skip <;> cases hu0 : btw a.a 4
  all_goals
    simp (config := { implicitDefEqProofs := false, maxDischargeDepth := 6, maxSteps := 1000000 }) only [go_sem, ↓reduceIte, Nat.reduceLT, Nat.reduceLeDiff, Nat.reduceEqDiff, Nat.reduceAdd, Nat.reduceMul, Nat.reduceSub, Nat.reduceBEq, reduceCtorEq, Int.reduceEq, Int.reduceLT, Int.reduceLE, Int.reduceNeg, Int.reduceToNat, hk, hnb, hP, hR, hC, hb1, hb2, hb3, hb4, loads_eq, nv, hu0]
    refine CW_mono _ (use_W (cs := [.int .i64 0, .int .i64 a.a, .int .i64 a.b, .int .i64 a.n]) (z := a.a) (ok := true) hb1 hb2 hb3 (by simp (config := { implicitDefEqProofs := false, maxDischargeDepth := 6, maxSteps := 1000000 }) only [go_sem, ↓reduceIte, Nat.reduceLT, Nat.reduceLeDiff, Nat.reduceEqDiff, Nat.reduceAdd, Nat.reduceMul, Nat.reduceSub, Nat.reduceBEq, reduceCtorEq, Int.reduceEq, Int.reduceLT, Int.reduceLE, Int.reduceNeg, Int.reduceToNat, hnb, hP, hR, hC, hb1, hb2, hb3, hb4, loads_eq, nv, hu0]) rfl (by simp (config := { implicitDefEqProofs := false, maxDischargeDepth := 6, maxSteps := 1000000 }) only [go_sem, ↓reduceIte, Nat.reduceLT, Nat.reduceLeDiff, Nat.reduceEqDiff, Nat.reduceAdd, Nat.reduceMul, Nat.reduceSub, Nat.reduceBEq, reduceCtorEq, Int.reduceEq, Int.reduceLT, Int.reduceLE, Int.reduceNeg, Int.reduceToNat, hnb, hP, hR, hC, hb1, hb2, hb3, hb4, loads_eq, nv, hu0])) ?_
    rintro _ _ ⟨rfl, rfl⟩
    simp (config := { implicitDefEqProofs := false, maxDischargeDepth := 6, maxSteps := 1000000 }) only [go_sem, ↓reduceIte, Nat.reduceLT, Nat.reduceLeDiff, Nat.reduceEqDiff, Nat.reduceAdd, Nat.reduceMul, Nat.reduceSub, Nat.reduceBEq, reduceCtorEq, Int.reduceEq, Int.reduceLT, Int.reduceLE, Int.reduceNeg, Int.reduceToNat, hk, hnb, hP, hR, hC, hb1, hb2, hb3, hb4, loads_eq, nv, hu0]
    refine ⟨by simp [rightP, okP, restP, hk, hu0], ?_⟩
    repeat (first | exact hEG | refine Ext.set ?_ (by omega) (by (try simp only [next_set]); omega) _)

theorem right_5 {H : Heap} (hw : WF H) {a : Act} {len : Nat} (hl : len ≤ 65536) (hk : a.k = 5) : CW Try.prog 20 #[.agg a.cells.toArray, nv len] H fun x H' => x = .ret (.bool (rightP a len)) ∧ Ext H H' := by
  refine CW_k (n := 98) if20 rfl ?_
  unfold C20
  have hnb := hw.1
  simp (config := { implicitDefEqProofs := false, maxDischargeDepth := 6, maxSteps := 1000000 }) only [go_sem, ↓reduceIte, Nat.reduceLT, Nat.reduceLeDiff, Nat.reduceEqDiff, Nat.reduceAdd, Nat.reduceMul, Nat.reduceSub, Nat.reduceBEq, reduceCtorEq, Int.reduceEq, Int.reduceLT, Int.reduceLE, Int.reduceNeg, Int.reduceToNat, hnb, loads_eq, Act.cells]
  have hEG := (((((Ext.refl hw).alloc (⟨47, 0, false, [.int .i64 a.k, .int .i64 a.a, .int .i64 a.b, .int .i64 a.n]⟩ : Blk)).alloc (⟨47, 0, false, [.int .i64 0, .int .i64 0, .int .i64 0, .int .i64 0]⟩ : Blk)).set (b := H.next + 1) (by omega) (by simp only [next_alloc]; omega) (⟨47, 0, false, [.int .i64 0, .int .i64 a.a, .int .i64 a.b, .int .i64 a.n]⟩ : Blk)).alloc
    (⟨4, 0, false, [.bool false]⟩ : Blk)).set (b := H.next + 1 + 1) (by omega) (by simp only [next_alloc, next_set]; omega) (⟨4, 0, false, [.bool true]⟩ : Blk)
  generalize hG : (Heap.set (Heap.alloc _ _) _ _) = G at hEG ⊢
  have hP : G.get H.next = some ⟨47, 0, false, [.int .i64 a.k, .int .i64 a.a, .int .i64 a.b, .int .i64 a.n]⟩ := by rw [← hG]; simp (config := { implicitDefEqProofs := false, maxDischargeDepth := 6, maxSteps := 1000000 }) only [go_sem, ↓reduceIte, Nat.reduceLT, Nat.reduceLeDiff, Nat.reduceEqDiff, Nat.reduceAdd, Nat.reduceMul, Nat.reduceSub, Nat.reduceBEq, reduceCtorEq, Int.reduceEq, Int.reduceLT, Int.reduceLE, Int.reduceNeg, Int.reduceToNat, hnb]
  have hR : G.get (H.next + 1) = some ⟨47, 0, false, [.int .i64 0, .int .i64 a.a, .int .i64 a.b, .int .i64 a.n]⟩ := by rw [← hG]; simp (config := { implicitDefEqProofs := false, maxDischargeDepth := 6, maxSteps := 1000000 }) only [go_sem, ↓reduceIte, Nat.reduceLT, Nat.reduceLeDiff, Nat.reduceEqDiff, Nat.reduceAdd, Nat.reduceMul, Nat.reduceSub, Nat.reduceBEq, reduceCtorEq, Int.reduceEq, Int.reduceLT, Int.reduceLE, Int.reduceNeg, Int.reduceToNat, hnb]
  have hC : G.get (H.next + 1 + 1) = some ⟨4, 0, false, [.bool true]⟩ := by rw [← hG]; simp (config := { implicitDefEqProofs := false, maxDischargeDepth := 6, maxSteps := 1000000 }) only [go_sem, ↓reduceIte, Nat.reduceLT, Nat.reduceLeDiff, Nat.reduceEqDiff, Nat.reduceAdd, Nat.reduceMul, Nat.reduceSub, Nat.reduceBEq, reduceCtorEq, Int.reduceEq, Int.reduceLT, Int.reduceLE, Int.reduceNeg, Int.reduceToNat, hnb]
  have hnx : H.next + 1 + 1 < G.next := hEG.wf.lt hC
  clear hG
  have hb1 : base0 ≤ H.next + 1 := by omega
  have hb2 : base0 ≤ H.next + 1 + 1 := by omega
  have hb3 : H.next + 1 ≠ H.next + 1 + 1 := by omega
  have hb4 : H.next + 1 + 1 ≠ H.next + 1 := by omega
  skip <;> cases hu0 : btw a.a 4
  all_goals
    simp (config := { implicitDefEqProofs := false, maxDischargeDepth := 6, maxSteps := 1000000 }) only [go_sem, ↓reduceIte, Nat.reduceLT, Nat.reduceLeDiff, Nat.reduceEqDiff, Nat.reduceAdd, Nat.reduceMul, Nat.reduceSub, Nat.reduceBEq, reduceCtorEq, Int.reduceEq, Int.reduceLT, Int.reduceLE, Int.reduceNeg, Int.reduceToNat, hk, hnb, hP, hR, hC, hb1, hb2, hb3, hb4, loads_eq, nv, hu0]
    refine CW_mono _ (use_W (cs := [.int .i64 0, .int .i64 a.a, .int .i64 a.b, .int .i64 a.n]) (z := a.a) (ok := true) hb1 hb2 hb3 (by simp (config := { implicitDefEqProofs := false, maxDischargeDepth := 6, maxSteps := 1000000 }) only [go_sem, ↓reduceIte, Nat.reduceLT, Nat.reduceLeDiff, Nat.reduceEqDiff, Nat.reduceAdd, Nat.reduceMul, Nat.reduceSub, Nat.reduceBEq, reduceCtorEq, Int.reduceEq, Int.reduceLT, Int.reduceLE, Int.reduceNeg, Int.reduceToNat, hnb, hP, hR, hC, hb1, hb2, hb3, hb4, loads_eq, nv, hu0]) rfl (by simp (config := { implicitDefEqProofs := false, maxDischargeDepth := 6, maxSteps := 1000000 }) only [go_sem, ↓reduceIte, Nat.reduceLT, Nat.reduceLeDiff, Nat.reduceEqDiff, Nat.reduceAdd, Nat.reduceMul, Nat.reduceSub, Nat.reduceBEq, reduceCtorEq, Int.reduceEq, Int.reduceLT, Int.reduceLE, Int.reduceNeg, Int.reduceToNat, hnb, hP, hR, hC, hb1, hb2, hb3, hb4, loads_eq, nv, hu0])) ?_
    rintro _ _ ⟨rfl, rfl⟩
    simp (config := { implicitDefEqProofs := false, maxDischargeDepth := 6, maxSteps := 1000000 }) only [go_sem, ↓reduceIte, Nat.reduceLT, Nat.reduceLeDiff, Nat.reduceEqDiff, Nat.reduceAdd, Nat.reduceMul, Nat.reduceSub, Nat.reduceBEq, reduceCtorEq, Int.reduceEq, Int.reduceLT, Int.reduceLE, Int.reduceNeg, Int.reduceToNat, hk, hnb, hP, hR, hC, hb1, hb2, hb3, hb4, loads_eq, nv, hu0]
    refine ⟨by simp [rightP, okP, restP, hk, hu0], ?_⟩
    repeat (first | exact hEG | refine Ext.set ?_ (by omega) (by (try simp only [next_set]); omega) _)

theorem right_6 {H : Heap} (hw : WF H) {a : Act} {len : Nat} (hl : len ≤ 65536) (hk : a.k = 6) : CW Try.prog 20 #[.agg a.cells.toArray, nv len] H fun x H' => x = .ret (.bool (rightP a len)) ∧ Ext H H' := by
  refine CW_k (n := 98) if20 rfl ?_
  unfold C20
  have hnb := hw.1
  simp (config := { implicitDefEqProofs := false, maxDischargeDepth := 6, maxSteps := 1000000 }) only [go_sem, ↓reduceIte, Nat.reduceLT, Nat.reduceLeDiff, Nat.reduceEqDiff, Nat.reduceAdd, Nat.reduceMul, Nat.reduceSub, Nat.reduceBEq, reduceCtorEq, Int.reduceEq, Int.reduceLT, Int.reduceLE, Int.reduceNeg, Int.reduceToNat, hnb, loads_eq, Act.cells]
  have hEG := (((((Ext.refl hw).alloc (⟨47, 0, false, [.int .i64 a.k, .int .i64 a.a, .int .i64 a.b, .int .i64 a.n]⟩ : Blk)).alloc (⟨47, 0, false, [.int .i64 0, .int .i64 0, .int .i64 0, .int .i64 0]⟩ : Blk)).set (b := H.next + 1) (by omega) (by simp only [next_alloc]; omega) (⟨47, 0, false, [.int .i64 0, .int .i64 a.a, .int .i64 a.b, .int .i64 a.n]⟩ : Blk)).alloc
    (⟨4, 0, false, [.bool false]⟩ : Blk)).set (b := H.next + 1 + 1) (by omega) (by simp only [next_alloc, next_set]; omega) (⟨4, 0, false, [.bool true]⟩ : Blk)
  generalize hG : (Heap.set (Heap.alloc _ _) _ _) = G at hEG ⊢
  have hP : G.get H.next = some ⟨47, 0, false, [.int .i64 a.k, .int .i64 a.a, .int .i64 a.b, .int .i64 a.n]⟩ := by rw [← hG]; simp (config := { implicitDefEqProofs := false, maxDischargeDepth := 6, maxSteps := 1000000 }) only [go_sem, ↓reduceIte, Nat.reduceLT, Nat.reduceLeDiff, Nat.reduceEqDiff, Nat.reduceAdd, Nat.reduceMul, Nat.reduceSub, Nat.reduceBEq, reduceCtorEq, Int.reduceEq, Int.reduceLT, Int.reduceLE, Int.reduceNeg, Int.reduceToNat, hnb]
  have hR : G.get (H.next + 1) = some ⟨47, 0, false, [.int .i64 0, .int .i64 a.a, .int .i64 a.b, .int .i64 a.n]⟩ := by rw [← hG]; simp (config := { implicitDefEqProofs := false, maxDischargeDepth := 6, maxSteps := 1000000 }) only [go_sem, ↓reduceIte, Nat.reduceLT, Nat.reduceLeDiff, Nat.reduceEqDiff, Nat.reduceAdd, Nat.reduceMul, Nat.reduceSub, Nat.reduceBEq, reduceCtorEq, Int.reduceEq, Int.reduceLT, Int.reduceLE, Int.reduceNeg, Int.reduceToNat, hnb]
  have hC : G.get (H.next + 1 + 1) = some ⟨4, 0, false, [.bool true]⟩ := by rw [← hG]; simp (config := { implicitDefEqProofs := false, maxDischargeDepth := 6, maxSteps := 1000000 }) only [go_sem, ↓reduceIte, Nat.reduceLT, Nat.reduceLeDiff, Nat.reduceEqDiff, Nat.reduceAdd, Nat.reduceMul, Nat.reduceSub, Nat.reduceBEq, reduceCtorEq, Int.reduceEq, Int.reduceLT, Int.reduceLE, Int.reduceNeg, Int.reduceToNat, hnb]
  have hnx : H.next + 1 + 1 < G.next := hEG.wf.lt hC
  clear hG
  have hb1 : base0 ≤ H.next + 1 := by omega
  have hb2 : base0 ≤ H.next + 1 + 1 := by omega
  have hb3 : H.next + 1 ≠ H.next + 1 + 1 := by omega
  have hb4 : H.next + 1 + 1 ≠ H.next + 1 := by omega
  skip <;> cases hu0 : btw a.a 4
  all_goals
    simp (config := { implicitDefEqProofs := false, maxDischargeDepth := 6, maxSteps := 1000000 }) only [go_sem, ↓reduceIte, Nat.reduceLT, Nat.reduceLeDiff, Nat.reduceEqDiff, Nat.reduceAdd, Nat.reduceMul, Nat.reduceSub, Nat.reduceBEq, reduceCtorEq, Int.reduceEq, Int.reduceLT, Int.reduceLE, Int.reduceNeg, Int.reduceToNat, hk, hnb, hP, hR, hC, hb1, hb2, hb3, hb4, loads_eq, nv, hu0]
    refine CW_mono _ (use_W (cs := [.int .i64 0, .int .i64 a.a, .int .i64 a.b, .int .i64 a.n]) (z := a.a) (ok := true) hb1 hb2 hb3 (by simp (config := { implicitDefEqProofs := false, maxDischargeDepth := 6, maxSteps := 1000000 }) only [go_sem, ↓reduceIte, Nat.reduceLT, Nat.reduceLeDiff, Nat.reduceEqDiff, Nat.reduceAdd, Nat.reduceMul, Nat.reduceSub, Nat.reduceBEq, reduceCtorEq, Int.reduceEq, Int.reduceLT, Int.reduceLE, Int.reduceNeg, Int.reduceToNat, hnb, hP, hR, hC, hb1, hb2, hb3, hb4, loads_eq, nv, hu0]) rfl (by simp (config := { implicitDefEqProofs := false, maxDischargeDepth := 6, maxSteps := 1000000 }) only [go_sem, ↓reduceIte, Nat.reduceLT, Nat.reduceLeDiff, Nat.reduceEqDiff, Nat.reduceAdd, Nat.reduceMul, Nat.reduceSub, Nat.reduceBEq, reduceCtorEq, Int.reduceEq, Int.reduceLT, Int.reduceLE, Int.reduceNeg, Int.reduceToNat, hnb, hP, hR, hC, hb1, hb2, hb3, hb4, loads_eq, nv, hu0])) ?_
    rintro _ _ ⟨rfl, rfl⟩
    simp (config := { implicitDefEqProofs := false, maxDischargeDepth := 6, maxSteps := 1000000 }) only [go_sem, ↓reduceIte, Nat.reduceLT, Nat.reduceLeDiff, Nat.reduceEqDiff, Nat.reduceAdd, Nat.reduceMul, Nat.reduceSub, Nat.reduceBEq, reduceCtorEq, Int.reduceEq, Int.reduceLT, Int.reduceLE, Int.reduceNeg, Int.reduceToNat, hk, hnb, hP, hR, hC, hb1, hb2, hb3, hb4, loads_eq, nv, hu0]
    refine ⟨by simp [rightP, okP, restP, hk, hu0], ?_⟩
    repeat (first | exact hEG | refine Ext.set ?_ (by omega) (by (try simp only [next_set]); omega) _)

theorem right_8 {H : Heap} (hw : WF H) {a : Act} {len : Nat} (hl : len ≤ 65536) (hk : a.k = 8) : CW Try.prog 20 #[.agg a.cells.toArray, nv len] H fun x H' => x = .ret (.bool (rightP a len)) ∧ Ext H H' := by
  refine CW_k (n := 98) if20 rfl ?_
  unfold C20
  have hnb := hw.1
  simp (config := { implicitDefEqProofs := false, maxDischargeDepth := 6, maxSteps := 1000000 }) only [go_sem, ↓reduceIte, Nat.reduceLT, Nat.reduceLeDiff, Nat.reduceEqDiff, Nat.reduceAdd, Nat.reduceMul, Nat.reduceSub, Nat.reduceBEq, reduceCtorEq, Int.reduceEq, Int.reduceLT, Int.reduceLE, Int.reduceNeg, Int.reduceToNat, hnb, loads_eq, Act.cells]
  have hEG := (((((Ext.refl hw).alloc (⟨47, 0, false, [.int .i64 a.k, .int .i64 a.a, .int .i64 a.b, .int .i64 a.n]⟩ : Blk)).alloc (⟨47, 0, false, [.int .i64 0, .int .i64 0, .int .i64 0, .int .i64 0]⟩ : Blk)).set (b := H.next + 1) (by omega) (by simp only [next_alloc]; omega) (⟨47, 0, false, [.int .i64 0, .int .i64 a.a, .int .i64 a.b, .int .i64 a.n]⟩ : Blk)).alloc
    (⟨4, 0, false, [.bool false]⟩ : Blk)).set (b := H.next + 1 + 1) (by omega) (by simp only [next_alloc, next_set]; omega) (⟨4, 0, false, [.bool true]⟩ : Blk)
  generalize hG : (Heap.set (Heap.alloc _ _) _ _) = G at hEG ⊢
  have hP : G.get H.next = some ⟨47, 0, false, [.int .i64 a.k, .int .i64 a.a, .int .i64 a.b, .int .i64 a.n]⟩ := by rw [← hG]; simp (config := { implicitDefEqProofs := false, maxDischargeDepth := 6, maxSteps := 1000000 }) only [go_sem, ↓reduceIte, Nat.reduceLT, Nat.reduceLeDiff, Nat.reduceEqDiff, Nat.reduceAdd, Nat.reduceMul, Nat.reduceSub, Nat.reduceBEq, reduceCtorEq, Int.reduceEq, Int.reduceLT, Int.reduceLE, Int.reduceNeg, Int.reduceToNat, hnb]
  have hR : G.get (H.next + 1) = some ⟨47, 0, false, [.int .i64 0, .int .i64 a.a, .int .i64 a.b, .int .i64 a.n]⟩ := by rw [← hG]; simp (config := { implicitDefEqProofs := false, maxDischargeDepth := 6, maxSteps := 1000000 }) only [go_sem, ↓reduceIte, Nat.reduceLT, Nat.reduceLeDiff, Nat.reduceEqDiff, Nat.reduceAdd, Nat.reduceMul, Nat.reduceSub, Nat.reduceBEq, reduceCtorEq, Int.reduceEq, Int.reduceLT, Int.reduceLE, Int.reduceNeg, Int.reduceToNat, hnb]
  have hC : G.get (H.next + 1 + 1) = some ⟨4, 0, false, [.bool true]⟩ := by rw [← hG]; simp (config := { implicitDefEqProofs := false, maxDischargeDepth := 6, maxSteps := 1000000 }) only [go_sem, ↓reduceIte, Nat.reduceLT, Nat.reduceLeDiff, Nat.reduceEqDiff, Nat.reduceAdd, Nat.reduceMul, Nat.reduceSub, Nat.reduceBEq, reduceCtorEq, Int.reduceEq, Int.reduceLT, Int.reduceLE, Int.reduceNeg, Int.reduceToNat, hnb]
  have hnx : H.next + 1 + 1 < G.next := hEG.wf.lt hC
  clear hG
  have hb1 : base0 ≤ H.next + 1 := by omega
  have hb2 : base0 ≤ H.next + 1 + 1 := by omega
  have hb3 : H.next + 1 ≠ H.next + 1 + 1 := by omega
  have hb4 : H.next + 1 + 1 ≠ H.next + 1 := by omega
  skip <;> cases hu0 : btw a.a 8
  all_goals
    simp (config := { implicitDefEqProofs := false, maxDischargeDepth := 6, maxSteps := 1000000 }) only [go_sem, ↓reduceIte, Nat.reduceLT, Nat.reduceLeDiff, Nat.reduceEqDiff, Nat.reduceAdd, Nat.reduceMul, Nat.reduceSub, Nat.reduceBEq, reduceCtorEq, Int.reduceEq, Int.reduceLT, Int.reduceLE, Int.reduceNeg, Int.reduceToNat, hk, hnb, hP, hR, hC, hb1, hb2, hb3, hb4, loads_eq, nv, hu0]
    refine CW_mono _ (use_W (cs := [.int .i64 0, .int .i64 a.a, .int .i64 a.b, .int .i64 a.n]) (z := a.a) (ok := true) hb1 hb2 hb3 (by simp (config := { implicitDefEqProofs := false, maxDischargeDepth := 6, maxSteps := 1000000 }) only [go_sem, ↓reduceIte, Nat.reduceLT, Nat.reduceLeDiff, Nat.reduceEqDiff, Nat.reduceAdd, Nat.reduceMul, Nat.reduceSub, Nat.reduceBEq, reduceCtorEq, Int.reduceEq, Int.reduceLT, Int.reduceLE, Int.reduceNeg, Int.reduceToNat, hnb, hP, hR, hC, hb1, hb2, hb3, hb4, loads_eq, nv, hu0]) rfl (by simp (config := { implicitDefEqProofs := false, maxDischargeDepth := 6, maxSteps := 1000000 }) only [go_sem, ↓reduceIte, Nat.reduceLT, Nat.reduceLeDiff, Nat.reduceEqDiff, Nat.reduceAdd, Nat.reduceMul, Nat.reduceSub, Nat.reduceBEq, reduceCtorEq, Int.reduceEq, Int.reduceLT, Int.reduceLE, Int.reduceNeg, Int.reduceToNat, hnb, hP, hR, hC, hb1, hb2, hb3, hb4, loads_eq, nv, hu0])) ?_
    rintro _ _ ⟨rfl, rfl⟩
    simp (config := { implicitDefEqProofs := false, maxDischargeDepth := 6, maxSteps := 1000000 }) only [go_sem, ↓reduceIte, Nat.reduceLT, Nat.reduceLeDiff, Nat.reduceEqDiff, Nat.reduceAdd, Nat.reduceMul, Nat.reduceSub, Nat.reduceBEq, reduceCtorEq, Int.reduceEq, Int.reduceLT, Int.reduceLE, Int.reduceNeg, Int.reduceToNat, hk, hnb, hP, hR, hC, hb1, hb2, hb3, hb4, loads_eq, nv, hu0]
    refine ⟨by simp [rightP, okP, restP, hk, hu0], ?_⟩
    repeat (first | exact hEG | refine Ext.set ?_ (by omega) (by (try simp only [next_set]); omega) _)

theorem right_3 {H : Heap} (hw : WF H) {a : Act} {len : Nat} (hl : len ≤ 65536) (hk : a.k = 3) : CW Try.prog 20 #[.agg a.cells.toArray, nv len] H fun x H' => x = .ret (.bool (rightP a len)) ∧ Ext H H' := by
  refine CW_k (n := 98) if20 rfl ?_
  unfold C20
  have hnb := hw.1
  simp (config := { implicitDefEqProofs := false, maxDischargeDepth := 6, maxSteps := 1000000 }) only [go_sem, ↓reduceIte, Nat.reduceLT, Nat.reduceLeDiff, Nat.reduceEqDiff, Nat.reduceAdd, Nat.reduceMul, Nat.reduceSub, Nat.reduceBEq, reduceCtorEq, Int.reduceEq, Int.reduceLT, Int.reduceLE, Int.reduceNeg, Int.reduceToNat, hnb, loads_eq, Act.cells]
  have hEG := (((((Ext.refl hw).alloc (⟨47, 0, false, [.int .i64 a.k, .int .i64 a.a, .int .i64 a.b, .int .i64 a.n]⟩ : Blk)).alloc (⟨47, 0, false, [.int .i64 0, .int .i64 0, .int .i64 0, .int .i64 0]⟩ : Blk)).set (b := H.next + 1) (by omega) (by simp only [next_alloc]; omega) (⟨47, 0, false, [.int .i64 0, .int .i64 a.a, .int .i64 a.b, .int .i64 a.n]⟩ : Blk)).alloc
    (⟨4, 0, false, [.bool false]⟩ : Blk)).set (b := H.next + 1 + 1) (by omega) (by simp only [next_alloc, next_set]; omega) (⟨4, 0, false, [.bool true]⟩ : Blk)
  generalize hG : (Heap.set (Heap.alloc _ _) _ _) = G at hEG ⊢
  have hP : G.get H.next = some ⟨47, 0, false, [.int .i64 a.k, .int .i64 a.a, .int .i64 a.b, .int .i64 a.n]⟩ := by rw [← hG]; simp (config := { implicitDefEqProofs := false, maxDischargeDepth := 6, maxSteps := 1000000 }) only [go_sem, ↓reduceIte, Nat.reduceLT, Nat.reduceLeDiff, Nat.reduceEqDiff, Nat.reduceAdd, Nat.reduceMul, Nat.reduceSub, Nat.reduceBEq, reduceCtorEq, Int.reduceEq, Int.reduceLT, Int.reduceLE, Int.reduceNeg, Int.reduceToNat, hnb]
  have hR : G.get (H.next + 1) = some ⟨47, 0, false, [.int .i64 0, .int .i64 a.a, .int .i64 a.b, .int .i64 a.n]⟩ := by rw [← hG]; simp (config := { implicitDefEqProofs := false, maxDischargeDepth := 6, maxSteps := 1000000 }) only [go_sem, ↓reduceIte, Nat.reduceLT, Nat.reduceLeDiff, Nat.reduceEqDiff, Nat.reduceAdd, Nat.reduceMul, Nat.reduceSub, Nat.reduceBEq, reduceCtorEq, Int.reduceEq, Int.reduceLT, Int.reduceLE, Int.reduceNeg, Int.reduceToNat, hnb]
  have hC : G.get (H.next + 1 + 1) = some ⟨4, 0, false, [.bool true]⟩ := by rw [← hG]; simp (config := { implicitDefEqProofs := false, maxDischargeDepth := 6, maxSteps := 1000000 }) only [go_sem, ↓reduceIte, Nat.reduceLT, Nat.reduceLeDiff, Nat.reduceEqDiff, Nat.reduceAdd, Nat.reduceMul, Nat.reduceSub, Nat.reduceBEq, reduceCtorEq, Int.reduceEq, Int.reduceLT, Int.reduceLE, Int.reduceNeg, Int.reduceToNat, hnb]
  have hnx : H.next + 1 + 1 < G.next := hEG.wf.lt hC
  clear hG
  have hb1 : base0 ≤ H.next + 1 := by omega
  have hb2 : base0 ≤ H.next + 1 + 1 := by omega
  have hb3 : H.next + 1 ≠ H.next + 1 + 1 := by omega
  have hb4 : H.next + 1 + 1 ≠ H.next + 1 := by omega
  skip <;> cases hu0 : btw a.a 4 <;> cases hu1 : btw a.b 4
  all_goals
    simp (config := { implicitDefEqProofs := false, maxDischargeDepth := 6, maxSteps := 1000000 }) only [go_sem, ↓reduceIte, Nat.reduceLT, Nat.reduceLeDiff, Nat.reduceEqDiff, Nat.reduceAdd, Nat.reduceMul, Nat.reduceSub, Nat.reduceBEq, reduceCtorEq, Int.reduceEq, Int.reduceLT, Int.reduceLE, Int.reduceNeg, Int.reduceToNat, hk, hnb, hP, hR, hC, hb1, hb2, hb3, hb4, loads_eq, nv, hu0, hu1]
    refine CW_mono _ (use_W (cs := [.int .i64 0, .int .i64 a.a, .int .i64 a.b, .int .i64 a.n]) (z := a.a) (ok := true) hb1 hb2 hb3 (by simp (config := { implicitDefEqProofs := false, maxDischargeDepth := 6, maxSteps := 1000000 }) only [go_sem, ↓reduceIte, Nat.reduceLT, Nat.reduceLeDiff, Nat.reduceEqDiff, Nat.reduceAdd, Nat.reduceMul, Nat.reduceSub, Nat.reduceBEq, reduceCtorEq, Int.reduceEq, Int.reduceLT, Int.reduceLE, Int.reduceNeg, Int.reduceToNat, hnb, hP, hR, hC, hb1, hb2, hb3, hb4, loads_eq, nv, hu0, hu1]) rfl (by simp (config := { implicitDefEqProofs := false, maxDischargeDepth := 6, maxSteps := 1000000 }) only [go_sem, ↓reduceIte, Nat.reduceLT, Nat.reduceLeDiff, Nat.reduceEqDiff, Nat.reduceAdd, Nat.reduceMul, Nat.reduceSub, Nat.reduceBEq, reduceCtorEq, Int.reduceEq, Int.reduceLT, Int.reduceLE, Int.reduceNeg, Int.reduceToNat, hnb, hP, hR, hC, hb1, hb2, hb3, hb4, loads_eq, nv, hu0, hu1])) ?_
    rintro _ _ ⟨rfl, rfl⟩
    simp (config := { implicitDefEqProofs := false, maxDischargeDepth := 6, maxSteps := 1000000 }) only [go_sem, ↓reduceIte, Nat.reduceLT, Nat.reduceLeDiff, Nat.reduceEqDiff, Nat.reduceAdd, Nat.reduceMul, Nat.reduceSub, Nat.reduceBEq, reduceCtorEq, Int.reduceEq, Int.reduceLT, Int.reduceLE, Int.reduceNeg, Int.reduceToNat, hk, hnb, hP, hR, hC, hb1, hb2, hb3, hb4, loads_eq, nv, hu0, hu1]
    refine CW_mono _ (use_W (cs := [.int .i64 0, .int .i64 0, .int .i64 a.b, .int .i64 a.n]) (z := a.b) (ok := btw a.a 4) hb1 hb2 hb3 (by simp (config := { implicitDefEqProofs := false, maxDischargeDepth := 6, maxSteps := 1000000 }) only [go_sem, ↓reduceIte, Nat.reduceLT, Nat.reduceLeDiff, Nat.reduceEqDiff, Nat.reduceAdd, Nat.reduceMul, Nat.reduceSub, Nat.reduceBEq, reduceCtorEq, Int.reduceEq, Int.reduceLT, Int.reduceLE, Int.reduceNeg, Int.reduceToNat, hnb, hP, hR, hC, hb1, hb2, hb3, hb4, loads_eq, nv, hu0, hu1]) rfl (by simp (config := { implicitDefEqProofs := false, maxDischargeDepth := 6, maxSteps := 1000000 }) only [go_sem, ↓reduceIte, Nat.reduceLT, Nat.reduceLeDiff, Nat.reduceEqDiff, Nat.reduceAdd, Nat.reduceMul, Nat.reduceSub, Nat.reduceBEq, reduceCtorEq, Int.reduceEq, Int.reduceLT, Int.reduceLE, Int.reduceNeg, Int.reduceToNat, hnb, hP, hR, hC, hb1, hb2, hb3, hb4, loads_eq, nv, hu0, hu1])) ?_
    rintro _ _ ⟨rfl, rfl⟩
    simp (config := { implicitDefEqProofs := false, maxDischargeDepth := 6, maxSteps := 1000000 }) only [go_sem, ↓reduceIte, Nat.reduceLT, Nat.reduceLeDiff, Nat.reduceEqDiff, Nat.reduceAdd, Nat.reduceMul, Nat.reduceSub, Nat.reduceBEq, reduceCtorEq, Int.reduceEq, Int.reduceLT, Int.reduceLE, Int.reduceNeg, Int.reduceToNat, hk, hnb, hP, hR, hC, hb1, hb2, hb3, hb4, loads_eq, nv, hu0, hu1]
    refine ⟨by simp [rightP, okP, restP, hk, hu0, hu1], ?_⟩
    repeat (first | exact hEG | refine Ext.set ?_ (by omega) (by (try simp only [next_set]); omega) _)

theorem right_7 {H : Heap} (hw : WF H) {a : Act} {len : Nat} (hl : len ≤ 65536) (hk : a.k = 7) : CW Try.prog 20 #[.agg a.cells.toArray, nv len] H fun x H' => x = .ret (.bool (rightP a len)) ∧ Ext H H' := by
  refine CW_k (n := 98) if20 rfl ?_
  unfold C20
  have hnb := hw.1
  simp (config := { implicitDefEqProofs := false, maxDischargeDepth := 6, maxSteps := 1000000 }) only [go_sem, ↓reduceIte, Nat.reduceLT, Nat.reduceLeDiff, Nat.reduceEqDiff, Nat.reduceAdd, Nat.reduceMul, Nat.reduceSub, Nat.reduceBEq, reduceCtorEq, Int.reduceEq, Int.reduceLT, Int.reduceLE, Int.reduceNeg, Int.reduceToNat, hnb, loads_eq, Act.cells]
  have hEG := (((((Ext.refl hw).alloc (⟨47, 0, false, [.int .i64 a.k, .int .i64 a.a, .int .i64 a.b, .int .i64 a.n]⟩ : Blk)).alloc (⟨47, 0, false, [.int .i64 0, .int .i64 0, .int .i64 0, .int .i64 0]⟩ : Blk)).set (b := H.next + 1) (by omega) (by simp only [next_alloc]; omega) (⟨47, 0, false, [.int .i64 0, .int .i64 a.a, .int .i64 a.b, .int .i64 a.n]⟩ : Blk)).alloc
    (⟨4, 0, false, [.bool false]⟩ : Blk)).set (b := H.next + 1 + 1) (by omega) (by simp only [next_alloc, next_set]; omega) (⟨4, 0, false, [.bool true]⟩ : Blk)
  generalize hG : (Heap.set (Heap.alloc _ _) _ _) = G at hEG ⊢
  have hP : G.get H.next = some ⟨47, 0, false, [.int .i64 a.k, .int .i64 a.a, .int .i64 a.b, .int .i64 a.n]⟩ := by rw [← hG]; simp (config := { implicitDefEqProofs := false, maxDischargeDepth := 6, maxSteps := 1000000 }) only [go_sem, ↓reduceIte, Nat.reduceLT, Nat.reduceLeDiff, Nat.reduceEqDiff, Nat.reduceAdd, Nat.reduceMul, Nat.reduceSub, Nat.reduceBEq, reduceCtorEq, Int.reduceEq, Int.reduceLT, Int.reduceLE, Int.reduceNeg, Int.reduceToNat, hnb]
  have hR : G.get (H.next + 1) = some ⟨47, 0, false, [.int .i64 0, .int .i64 a.a, .int .i64 a.b, .int .i64 a.n]⟩ := by rw [← hG]; simp (config := { implicitDefEqProofs := false, maxDischargeDepth := 6, maxSteps := 1000000 }) only [go_sem, ↓reduceIte, Nat.reduceLT, Nat.reduceLeDiff, Nat.reduceEqDiff, Nat.reduceAdd, Nat.reduceMul, Nat.reduceSub, Nat.reduceBEq, reduceCtorEq, Int.reduceEq, Int.reduceLT, Int.reduceLE, Int.reduceNeg, Int.reduceToNat, hnb]
  have hC : G.get (H.next + 1 + 1) = some ⟨4, 0, false, [.bool true]⟩ := by rw [← hG]; simp (config := { implicitDefEqProofs := false, maxDischargeDepth := 6, maxSteps := 1000000 }) only [go_sem, ↓reduceIte, Nat.reduceLT, Nat.reduceLeDiff, Nat.reduceEqDiff, Nat.reduceAdd, Nat.reduceMul, Nat.reduceSub, Nat.reduceBEq, reduceCtorEq, Int.reduceEq, Int.reduceLT, Int.reduceLE, Int.reduceNeg, Int.reduceToNat, hnb]
  have hnx : H.next + 1 + 1 < G.next := hEG.wf.lt hC
  clear hG
  have hb1 : base0 ≤ H.next + 1 := by omega
  have hb2 : base0 ≤ H.next + 1 + 1 := by omega
  have hb3 : H.next + 1 ≠ H.next + 1 + 1 := by omega
  have hb4 : H.next + 1 + 1 ≠ H.next + 1 := by omega
  skip <;> cases hu0 : btw a.a 4 <;> cases hu1 : btw a.b 8
  all_goals
    simp (config := { implicitDefEqProofs := false, maxDischargeDepth := 6, maxSteps := 1000000 }) only [go_sem, ↓reduceIte, Nat.reduceLT, Nat.reduceLeDiff, Nat.reduceEqDiff, Nat.reduceAdd, Nat.reduceMul, Nat.reduceSub, Nat.reduceBEq, reduceCtorEq, Int.reduceEq, Int.reduceLT, Int.reduceLE, Int.reduceNeg, Int.reduceToNat, hk, hnb, hP, hR, hC, hb1, hb2, hb3, hb4, loads_eq, nv, hu0, hu1]
    refine CW_mono _ (use_W (cs := [.int .i64 0, .int .i64 a.a, .int .i64 a.b, .int .i64 a.n]) (z := a.a) (ok := true) hb1 hb2 hb3 (by simp (config := { implicitDefEqProofs := false, maxDischargeDepth := 6, maxSteps := 1000000 }) only [go_sem, ↓reduceIte, Nat.reduceLT, Nat.reduceLeDiff, Nat.reduceEqDiff, Nat.reduceAdd, Nat.reduceMul, Nat.reduceSub, Nat.reduceBEq, reduceCtorEq, Int.reduceEq, Int.reduceLT, Int.reduceLE, Int.reduceNeg, Int.reduceToNat, hnb, hP, hR, hC, hb1, hb2, hb3, hb4, loads_eq, nv, hu0, hu1]) rfl (by simp (config := { implicitDefEqProofs := false, maxDischargeDepth := 6, maxSteps := 1000000 }) only [go_sem, ↓reduceIte, Nat.reduceLT, Nat.reduceLeDiff, Nat.reduceEqDiff, Nat.reduceAdd, Nat.reduceMul, Nat.reduceSub, Nat.reduceBEq, reduceCtorEq, Int.reduceEq, Int.reduceLT, Int.reduceLE, Int.reduceNeg, Int.reduceToNat, hnb, hP, hR, hC, hb1, hb2, hb3, hb4, loads_eq, nv, hu0, hu1])) ?_
    rintro _ _ ⟨rfl, rfl⟩
    simp (config := { implicitDefEqProofs := false, maxDischargeDepth := 6, maxSteps := 1000000 }) only [go_sem, ↓reduceIte, Nat.reduceLT, Nat.reduceLeDiff, Nat.reduceEqDiff, Nat.reduceAdd, Nat.reduceMul, Nat.reduceSub, Nat.reduceBEq, reduceCtorEq, Int.reduceEq, Int.reduceLT, Int.reduceLE, Int.reduceNeg, Int.reduceToNat, hk, hnb, hP, hR, hC, hb1, hb2, hb3, hb4, loads_eq, nv, hu0, hu1]
    refine CW_mono _ (use_W (cs := [.int .i64 0, .int .i64 0, .int .i64 a.b, .int .i64 a.n]) (z := a.b) (ok := btw a.a 4) hb1 hb2 hb3 (by simp (config := { implicitDefEqProofs := false, maxDischargeDepth := 6, maxSteps := 1000000 }) only [go_sem, ↓reduceIte, Nat.reduceLT, Nat.reduceLeDiff, Nat.reduceEqDiff, Nat.reduceAdd, Nat.reduceMul, Nat.reduceSub, Nat.reduceBEq, reduceCtorEq, Int.reduceEq, Int.reduceLT, Int.reduceLE, Int.reduceNeg, Int.reduceToNat, hnb, hP, hR, hC, hb1, hb2, hb3, hb4, loads_eq, nv, hu0, hu1]) rfl (by simp (config := { implicitDefEqProofs := false, maxDischargeDepth := 6, maxSteps := 1000000 }) only [go_sem, ↓reduceIte, Nat.reduceLT, Nat.reduceLeDiff, Nat.reduceEqDiff, Nat.reduceAdd, Nat.reduceMul, Nat.reduceSub, Nat.reduceBEq, reduceCtorEq, Int.reduceEq, Int.reduceLT, Int.reduceLE, Int.reduceNeg, Int.reduceToNat, hnb, hP, hR, hC, hb1, hb2, hb3, hb4, loads_eq, nv, hu0, hu1])) ?_
    rintro _ _ ⟨rfl, rfl⟩
    simp (config := { implicitDefEqProofs := false, maxDischargeDepth := 6, maxSteps := 1000000 }) only [go_sem, ↓reduceIte, Nat.reduceLT, Nat.reduceLeDiff, Nat.reduceEqDiff, Nat.reduceAdd, Nat.reduceMul, Nat.reduceSub, Nat.reduceBEq, reduceCtorEq, Int.reduceEq, Int.reduceLT, Int.reduceLE, Int.reduceNeg, Int.reduceToNat, hk, hnb, hP, hR, hC, hb1, hb2, hb3, hb4, loads_eq, nv, hu0, hu1]
    refine ⟨by simp [rightP, okP, restP, hk, hu0, hu1], ?_⟩
    repeat (first | exact hEG | refine Ext.set ?_ (by omega) (by (try simp only [next_set]); omega) _)

theorem right_9 {H : Heap} (hw : WF H) {a : Act} {len : Nat} (hl : len ≤ 65536) (hk : a.k = 9) : CW Try.prog 20 #[.agg a.cells.toArray, nv len] H fun x H' => x = .ret (.bool (rightP a len)) ∧ Ext H H' := by
  refine CW_k (n := 98) if20 rfl ?_
  unfold C20
  have hnb := hw.1
  simp (config := { implicitDefEqProofs := false, maxDischargeDepth := 6, maxSteps := 1000000 }) only [go_sem, ↓reduceIte, Nat.reduceLT, Nat.reduceLeDiff, Nat.reduceEqDiff, Nat.reduceAdd, Nat.reduceMul, Nat.reduceSub, Nat.reduceBEq, reduceCtorEq, Int.reduceEq, Int.reduceLT, Int.reduceLE, Int.reduceNeg, Int.reduceToNat, hnb, loads_eq, Act.cells]
  have hEG := (((((Ext.refl hw).alloc (⟨47, 0, false, [.int .i64 a.k, .int .i64 a.a, .int .i64 a.b, .int .i64 a.n]⟩ : Blk)).alloc (⟨47, 0, false, [.int .i64 0, .int .i64 0, .int .i64 0, .int .i64 0]⟩ : Blk)).set (b := H.next + 1) (by omega) (by simp only [next_alloc]; omega) (⟨47, 0, false, [.int .i64 0, .int .i64 a.a, .int .i64 a.b, .int .i64 a.n]⟩ : Blk)).alloc
    (⟨4, 0, false, [.bool false]⟩ : Blk)).set (b := H.next + 1 + 1) (by omega) (by simp only [next_alloc, next_set]; omega) (⟨4, 0, false, [.bool true]⟩ : Blk)
  generalize hG : (Heap.set (Heap.alloc _ _) _ _) = G at hEG ⊢
  have hP : G.get H.next = some ⟨47, 0, false, [.int .i64 a.k, .int .i64 a.a, .int .i64 a.b, .int .i64 a.n]⟩ := by rw [← hG]; simp (config := { implicitDefEqProofs := false, maxDischargeDepth := 6, maxSteps := 1000000 }) only [go_sem, ↓reduceIte, Nat.reduceLT, Nat.reduceLeDiff, Nat.reduceEqDiff, Nat.reduceAdd, Nat.reduceMul, Nat.reduceSub, Nat.reduceBEq, reduceCtorEq, Int.reduceEq, Int.reduceLT, Int.reduceLE, Int.reduceNeg, Int.reduceToNat, hnb]
  have hR : G.get (H.next + 1) = some ⟨47, 0, false, [.int .i64 0, .int .i64 a.a, .int .i64 a.b, .int .i64 a.n]⟩ := by rw [← hG]; simp (config := { implicitDefEqProofs := false, maxDischargeDepth := 6, maxSteps := 1000000 }) only [go_sem, ↓reduceIte, Nat.reduceLT, Nat.reduceLeDiff, Nat.reduceEqDiff, Nat.reduceAdd, Nat.reduceMul, Nat.reduceSub, Nat.reduceBEq, reduceCtorEq, Int.reduceEq, Int.reduceLT, Int.reduceLE, Int.reduceNeg, Int.reduceToNat, hnb]
  have hC : G.get (H.next + 1 + 1) = some ⟨4, 0, false, [.bool true]⟩ := by rw [← hG]; simp (config := { implicitDefEqProofs := false, maxDischargeDepth := 6, maxSteps := 1000000 }) only [go_sem, ↓reduceIte, Nat.reduceLT, Nat.reduceLeDiff, Nat.reduceEqDiff, Nat.reduceAdd, Nat.reduceMul, Nat.reduceSub, Nat.reduceBEq, reduceCtorEq, Int.reduceEq, Int.reduceLT, Int.reduceLE, Int.reduceNeg, Int.reduceToNat, hnb]
  have hnx : H.next + 1 + 1 < G.next := hEG.wf.lt hC
  clear hG
  have hb1 : base0 ≤ H.next + 1 := by omega
  have hb2 : base0 ≤ H.next + 1 + 1 := by omega
  have hb3 : H.next + 1 ≠ H.next + 1 + 1 := by omega
  have hb4 : H.next + 1 + 1 ≠ H.next + 1 := by omega
  skip <;> cases hu0 : btw a.a 8 <;> cases hu1 : btw a.b 8
  all_goals
    simp (config := { implicitDefEqProofs := false, maxDischargeDepth := 6, maxSteps := 1000000 }) only [go_sem, ↓reduceIte, Nat.reduceLT, Nat.reduceLeDiff, Nat.reduceEqDiff, Nat.reduceAdd, Nat.reduceMul, Nat.reduceSub, Nat.reduceBEq, reduceCtorEq, Int.reduceEq, Int.reduceLT, Int.reduceLE, Int.reduceNeg, Int.reduceToNat, hk, hnb, hP, hR, hC, hb1, hb2, hb3, hb4, loads_eq, nv, hu0, hu1]
    refine CW_mono _ (use_W (cs := [.int .i64 0, .int .i64 a.a, .int .i64 a.b, .int .i64 a.n]) (z := a.a) (ok := true) hb1 hb2 hb3 (by simp (config := { implicitDefEqProofs := false, maxDischargeDepth := 6, maxSteps := 1000000 }) only [go_sem, ↓reduceIte, Nat.reduceLT, Nat.reduceLeDiff, Nat.reduceEqDiff, Nat.reduceAdd, Nat.reduceMul, Nat.reduceSub, Nat.reduceBEq, reduceCtorEq, Int.reduceEq, Int.reduceLT, Int.reduceLE, Int.reduceNeg, Int.reduceToNat, hnb, hP, hR, hC, hb1, hb2, hb3, hb4, loads_eq, nv, hu0, hu1]) rfl (by simp (config := { implicitDefEqProofs := false, maxDischargeDepth := 6, maxSteps := 1000000 }) only [go_sem, ↓reduceIte, Nat.reduceLT, Nat.reduceLeDiff, Nat.reduceEqDiff, Nat.reduceAdd, Nat.reduceMul, Nat.reduceSub, Nat.reduceBEq, reduceCtorEq, Int.reduceEq, Int.reduceLT, Int.reduceLE, Int.reduceNeg, Int.reduceToNat, hnb, hP, hR, hC, hb1, hb2, hb3, hb4, loads_eq, nv, hu0, hu1])) ?_
    rintro _ _ ⟨rfl, rfl⟩
    simp (config := { implicitDefEqProofs := false, maxDischargeDepth := 6, maxSteps := 1000000 }) only [go_sem, ↓reduceIte, Nat.reduceLT, Nat.reduceLeDiff, Nat.reduceEqDiff, Nat.reduceAdd, Nat.reduceMul, Nat.reduceSub, Nat.reduceBEq, reduceCtorEq, Int.reduceEq, Int.reduceLT, Int.reduceLE, Int.reduceNeg, Int.reduceToNat, hk, hnb, hP, hR, hC, hb1, hb2, hb3, hb4, loads_eq, nv, hu0, hu1]
    refine CW_mono _ (use_W (cs := [.int .i64 0, .int .i64 0, .int .i64 a.b, .int .i64 a.n]) (z := a.b) (ok := btw a.a 8) hb1 hb2 hb3 (by simp (config := { implicitDefEqProofs := false, maxDischargeDepth := 6, maxSteps := 1000000 }) only [go_sem, ↓reduceIte, Nat.reduceLT, Nat.reduceLeDiff, Nat.reduceEqDiff, Nat.reduceAdd, Nat.reduceMul, Nat.reduceSub, Nat.reduceBEq, reduceCtorEq, Int.reduceEq, Int.reduceLT, Int.reduceLE, Int.reduceNeg, Int.reduceToNat, hnb, hP, hR, hC, hb1, hb2, hb3, hb4, loads_eq, nv, hu0, hu1]) rfl (by simp (config := { implicitDefEqProofs := false, maxDischargeDepth := 6, maxSteps := 1000000 }) only [go_sem, ↓reduceIte, Nat.reduceLT, Nat.reduceLeDiff, Nat.reduceEqDiff, Nat.reduceAdd, Nat.reduceMul, Nat.reduceSub, Nat.reduceBEq, reduceCtorEq, Int.reduceEq, Int.reduceLT, Int.reduceLE, Int.reduceNeg, Int.reduceToNat, hnb, hP, hR, hC, hb1, hb2, hb3, hb4, loads_eq, nv, hu0, hu1])) ?_
    rintro _ _ ⟨rfl, rfl⟩
    simp (config := { implicitDefEqProofs := false, maxDischargeDepth := 6, maxSteps := 1000000 }) only [go_sem, ↓reduceIte, Nat.reduceLT, Nat.reduceLeDiff, Nat.reduceEqDiff, Nat.reduceAdd, Nat.reduceMul, Nat.reduceSub, Nat.reduceBEq, reduceCtorEq, Int.reduceEq, Int.reduceLT, Int.reduceLE, Int.reduceNeg, Int.reduceToNat, hk, hnb, hP, hR, hC, hb1, hb2, hb3, hb4, loads_eq, nv, hu0, hu1]
    refine ⟨by simp [rightP, okP, restP, hk, hu0, hu1], ?_⟩
    repeat (first | exact hEG | refine Ext.set ?_ (by omega) (by (try simp only [next_set]); omega) _)

theorem right_10 {H : Heap} (hw : WF H) {a : Act} {len : Nat} (hl : len ≤ 65536) (hk : a.k = 10) : CW Try.prog 20 #[.agg a.cells.toArray, nv len] H fun x H' => x = .ret (.bool (rightP a len)) ∧ Ext H H' := by
  refine CW_k (n := 98) if20 rfl ?_
  unfold C20
  have hnb := hw.1
  simp (config := { implicitDefEqProofs := false, maxDischargeDepth := 6, maxSteps := 1000000 }) only [go_sem, ↓reduceIte, Nat.reduceLT, Nat.reduceLeDiff, Nat.reduceEqDiff, Nat.reduceAdd, Nat.reduceMul, Nat.reduceSub, Nat.reduceBEq, reduceCtorEq, Int.reduceEq, Int.reduceLT, Int.reduceLE, Int.reduceNeg, Int.reduceToNat, hnb, loads_eq, Act.cells]
  have hEG := (((((Ext.refl hw).alloc (⟨47, 0, false, [.int .i64 a.k, .int .i64 a.a, .int .i64 a.b, .int .i64 a.n]⟩ : Blk)).alloc (⟨47, 0, false, [.int .i64 0, .int .i64 0, .int .i64 0, .int .i64 0]⟩ : Blk)).set (b := H.next + 1) (by omega) (by simp only [next_alloc]; omega) (⟨47, 0, false, [.int .i64 0, .int .i64 a.a, .int .i64 a.b, .int .i64 a.n]⟩ : Blk)).alloc
    (⟨4, 0, false, [.bool false]⟩ : Blk)).set (b := H.next + 1 + 1) (by omega) (by simp only [next_alloc, next_set]; omega) (⟨4, 0, false, [.bool true]⟩ : Blk)
  generalize hG : (Heap.set (Heap.alloc _ _) _ _) = G at hEG ⊢
  have hP : G.get H.next = some ⟨47, 0, false, [.int .i64 a.k, .int .i64 a.a, .int .i64 a.b, .int .i64 a.n]⟩ := by rw [← hG]; simp (config := { implicitDefEqProofs := false, maxDischargeDepth := 6, maxSteps := 1000000 }) only [go_sem, ↓reduceIte, Nat.reduceLT, Nat.reduceLeDiff, Nat.reduceEqDiff, Nat.reduceAdd, Nat.reduceMul, Nat.reduceSub, Nat.reduceBEq, reduceCtorEq, Int.reduceEq, Int.reduceLT, Int.reduceLE, Int.reduceNeg, Int.reduceToNat, hnb]
  have hR : G.get (H.next + 1) = some ⟨47, 0, false, [.int .i64 0, .int .i64 a.a, .int .i64 a.b, .int .i64 a.n]⟩ := by rw [← hG]; simp (config := { implicitDefEqProofs := false, maxDischargeDepth := 6, maxSteps := 1000000 }) only [go_sem, ↓reduceIte, Nat.reduceLT, Nat.reduceLeDiff, Nat.reduceEqDiff, Nat.reduceAdd, Nat.reduceMul, Nat.reduceSub, Nat.reduceBEq, reduceCtorEq, Int.reduceEq, Int.reduceLT, Int.reduceLE, Int.reduceNeg, Int.reduceToNat, hnb]
  have hC : G.get (H.next + 1 + 1) = some ⟨4, 0, false, [.bool true]⟩ := by rw [← hG]; simp (config := { implicitDefEqProofs := false, maxDischargeDepth := 6, maxSteps := 1000000 }) only [go_sem, ↓reduceIte, Nat.reduceLT, Nat.reduceLeDiff, Nat.reduceEqDiff, Nat.reduceAdd, Nat.reduceMul, Nat.reduceSub, Nat.reduceBEq, reduceCtorEq, Int.reduceEq, Int.reduceLT, Int.reduceLE, Int.reduceNeg, Int.reduceToNat, hnb]
  have hnx : H.next + 1 + 1 < G.next := hEG.wf.lt hC
  clear hG
  have hb1 : base0 ≤ H.next + 1 := by omega
  have hb2 : base0 ≤ H.next + 1 + 1 := by omega
  have hb3 : H.next + 1 ≠ H.next + 1 + 1 := by omega
  have hb4 : H.next + 1 + 1 ≠ H.next + 1 := by omega
  skip <;> cases hu0 : btw a.a 8 <;> by_cases hn0 : 0 ≤ a.n <;> by_cases hn1 : a.n ≤ 255
  all_goals
    simp (config := { implicitDefEqProofs := false, maxDischargeDepth := 6, maxSteps := 1000000 }) only [go_sem, ↓reduceIte, Nat.reduceLT, Nat.reduceLeDiff, Nat.reduceEqDiff, Nat.reduceAdd, Nat.reduceMul, Nat.reduceSub, Nat.reduceBEq, reduceCtorEq, Int.reduceEq, Int.reduceLT, Int.reduceLE, Int.reduceNeg, Int.reduceToNat, hk, hnb, hP, hR, hC, hb1, hb2, hb3, hb4, loads_eq, nv, hu0, hn0, hn1]
    refine CW_mono _ (use_W (cs := [.int .i64 0, .int .i64 a.a, .int .i64 a.b, .int .i64 a.n]) (z := a.a) (ok := true) hb1 hb2 hb3 (by simp (config := { implicitDefEqProofs := false, maxDischargeDepth := 6, maxSteps := 1000000 }) only [go_sem, ↓reduceIte, Nat.reduceLT, Nat.reduceLeDiff, Nat.reduceEqDiff, Nat.reduceAdd, Nat.reduceMul, Nat.reduceSub, Nat.reduceBEq, reduceCtorEq, Int.reduceEq, Int.reduceLT, Int.reduceLE, Int.reduceNeg, Int.reduceToNat, hnb, hP, hR, hC, hb1, hb2, hb3, hb4, loads_eq, nv, hu0]) rfl (by simp (config := { implicitDefEqProofs := false, maxDischargeDepth := 6, maxSteps := 1000000 }) only [go_sem, ↓reduceIte, Nat.reduceLT, Nat.reduceLeDiff, Nat.reduceEqDiff, Nat.reduceAdd, Nat.reduceMul, Nat.reduceSub, Nat.reduceBEq, reduceCtorEq, Int.reduceEq, Int.reduceLT, Int.reduceLE, Int.reduceNeg, Int.reduceToNat, hnb, hP, hR, hC, hb1, hb2, hb3, hb4, loads_eq, nv, hu0])) ?_
    rintro _ _ ⟨rfl, rfl⟩
    simp (config := { implicitDefEqProofs := false, maxDischargeDepth := 6, maxSteps := 1000000 }) only [go_sem, ↓reduceIte, Nat.reduceLT, Nat.reduceLeDiff, Nat.reduceEqDiff, Nat.reduceAdd, Nat.reduceMul, Nat.reduceSub, Nat.reduceBEq, reduceCtorEq, Int.reduceEq, Int.reduceLT, Int.reduceLE, Int.reduceNeg, Int.reduceToNat, hk, hnb, hP, hR, hC, hb1, hb2, hb3, hb4, loads_eq, nv, hu0, hn0, hn1]
    refine ⟨by simp [rightP, okP, restP, hk, hu0, hn0, hn1], ?_⟩
    repeat (first | exact hEG | refine Ext.set ?_ (by omega) (by (try simp only [next_set]); omega) _)

theorem right_11 {H : Heap} (hw : WF H) {a : Act} {len : Nat} (hl : len ≤ 65536) (hk : a.k = 11) : CW Try.prog 20 #[.agg a.cells.toArray, nv len] H fun x H' => x = .ret (.bool (rightP a len)) ∧ Ext H H' := by
  refine CW_k (n := 98) if20 rfl ?_
  unfold C20
  have hnb := hw.1
  simp (config := { implicitDefEqProofs := false, maxDischargeDepth := 6, maxSteps := 1000000 }) only [go_sem, ↓reduceIte, Nat.reduceLT, Nat.reduceLeDiff, Nat.reduceEqDiff, Nat.reduceAdd, Nat.reduceMul, Nat.reduceSub, Nat.reduceBEq, reduceCtorEq, Int.reduceEq, Int.reduceLT, Int.reduceLE, Int.reduceNeg, Int.reduceToNat, hnb, loads_eq, Act.cells]
  have hEG := (((((Ext.refl hw).alloc (⟨47, 0, false, [.int .i64 a.k, .int .i64 a.a, .int .i64 a.b, .int .i64 a.n]⟩ : Blk)).alloc (⟨47, 0, false, [.int .i64 0, .int .i64 0, .int .i64 0, .int .i64 0]⟩ : Blk)).set (b := H.next + 1) (by omega) (by simp only [next_alloc]; omega) (⟨47, 0, false, [.int .i64 0, .int .i64 a.a, .int .i64 a.b, .int .i64 a.n]⟩ : Blk)).alloc
    (⟨4, 0, false, [.bool false]⟩ : Blk)).set (b := H.next + 1 + 1) (by omega) (by simp only [next_alloc, next_set]; omega) (⟨4, 0, false, [.bool true]⟩ : Blk)
  generalize hG : (Heap.set (Heap.alloc _ _) _ _) = G at hEG ⊢
  have hP : G.get H.next = some ⟨47, 0, false, [.int .i64 a.k, .int .i64 a.a, .int .i64 a.b, .int .i64 a.n]⟩ := by rw [← hG]; simp (config := { implicitDefEqProofs := false, maxDischargeDepth := 6, maxSteps := 1000000 }) only [go_sem, ↓reduceIte, Nat.reduceLT, Nat.reduceLeDiff, Nat.reduceEqDiff, Nat.reduceAdd, Nat.reduceMul, Nat.reduceSub, Nat.reduceBEq, reduceCtorEq, Int.reduceEq, Int.reduceLT, Int.reduceLE, Int.reduceNeg, Int.reduceToNat, hnb]
  have hR : G.get (H.next + 1) = some ⟨47, 0, false, [.int .i64 0, .int .i64 a.a, .int .i64 a.b, .int .i64 a.n]⟩ := by rw [← hG]; simp (config := { implicitDefEqProofs := false, maxDischargeDepth := 6, maxSteps := 1000000 }) only [go_sem, ↓reduceIte, Nat.reduceLT, Nat.reduceLeDiff, Nat.reduceEqDiff, Nat.reduceAdd, Nat.reduceMul, Nat.reduceSub, Nat.reduceBEq, reduceCtorEq, Int.reduceEq, Int.reduceLT, Int.reduceLE, Int.reduceNeg, Int.reduceToNat, hnb]
  have hC : G.get (H.next + 1 + 1) = some ⟨4, 0, false, [.bool true]⟩ := by rw [← hG]; simp (config := { implicitDefEqProofs := false, maxDischargeDepth := 6, maxSteps := 1000000 }) only [go_sem, ↓reduceIte, Nat.reduceLT, Nat.reduceLeDiff, Nat.reduceEqDiff, Nat.reduceAdd, Nat.reduceMul, Nat.reduceSub, Nat.reduceBEq, reduceCtorEq, Int.reduceEq, Int.reduceLT, Int.reduceLE, Int.reduceNeg, Int.reduceToNat, hnb]
  have hnx : H.next + 1 + 1 < G.next := hEG.wf.lt hC
  clear hG
  have hb1 : base0 ≤ H.next + 1 := by omega
  have hb2 : base0 ≤ H.next + 1 + 1 := by omega
  have hb3 : H.next + 1 ≠ H.next + 1 + 1 := by omega
  have hb4 : H.next + 1 + 1 ≠ H.next + 1 := by omega
  skip
  all_goals
    simp (config := { implicitDefEqProofs := false, maxDischargeDepth := 6, maxSteps := 1000000 }) only [go_sem, ↓reduceIte, Nat.reduceLT, Nat.reduceLeDiff, Nat.reduceEqDiff, Nat.reduceAdd, Nat.reduceMul, Nat.reduceSub, Nat.reduceBEq, reduceCtorEq, Int.reduceEq, Int.reduceLT, Int.reduceLE, Int.reduceNeg, Int.reduceToNat, hk, hnb, hP, hR, hC, hb1, hb2, hb3, hb4, loads_eq, nv]
    refine ⟨by simp [rightP, okP, restP, hk], ?_⟩
    repeat (first | exact hEG | refine Ext.set ?_ (by omega) (by (try simp only [next_set]); omega) _)

theorem right_12 {H : Heap} (hw : WF H) {a : Act} {len : Nat} (hl : len ≤ 65536) (hk : a.k = 12) : CW Try.prog 20 #[.agg a.cells.toArray, nv len] H fun x H' => x = .ret (.bool (rightP a len)) ∧ Ext H H' := by
  refine CW_k (n := 98) if20 rfl ?_
  unfold C20
  have hnb := hw.1
  simp (config := { implicitDefEqProofs := false, maxDischargeDepth := 6, maxSteps := 1000000 }) only [go_sem, ↓reduceIte, Nat.reduceLT, Nat.reduceLeDiff, Nat.reduceEqDiff, Nat.reduceAdd, Nat.reduceMul, Nat.reduceSub, Nat.reduceBEq, reduceCtorEq, Int.reduceEq, Int.reduceLT, Int.reduceLE, Int.reduceNeg, Int.reduceToNat, hnb, loads_eq, Act.cells]
  have hEG := (((((Ext.refl hw).alloc (⟨47, 0, false, [.int .i64 a.k, .int .i64 a.a, .int .i64 a.b, .int .i64 a.n]⟩ : Blk)).alloc (⟨47, 0, false, [.int .i64 0, .int .i64 0, .int .i64 0, .int .i64 0]⟩ : Blk)).set (b := H.next + 1) (by omega) (by simp only [next_alloc]; omega) (⟨47, 0, false, [.int .i64 0, .int .i64 a.a, .int .i64 a.b, .int .i64 a.n]⟩ : Blk)).alloc
    (⟨4, 0, false, [.bool false]⟩ : Blk)).set (b := H.next + 1 + 1) (by omega) (by simp only [next_alloc, next_set]; omega) (⟨4, 0, false, [.bool true]⟩ : Blk)
  generalize hG : (Heap.set (Heap.alloc _ _) _ _) = G at hEG ⊢
  have hP : G.get H.next = some ⟨47, 0, false, [.int .i64 a.k, .int .i64 a.a, .int .i64 a.b, .int .i64 a.n]⟩ := by rw [← hG]; simp (config := { implicitDefEqProofs := false, maxDischargeDepth := 6, maxSteps := 1000000 }) only [go_sem, ↓reduceIte, Nat.reduceLT, Nat.reduceLeDiff, Nat.reduceEqDiff, Nat.reduceAdd, Nat.reduceMul, Nat.reduceSub, Nat.reduceBEq, reduceCtorEq, Int.reduceEq, Int.reduceLT, Int.reduceLE, Int.reduceNeg, Int.reduceToNat, hnb]
  have hR : G.get (H.next + 1) = some ⟨47, 0, false, [.int .i64 0, .int .i64 a.a, .int .i64 a.b, .int .i64 a.n]⟩ := by rw [← hG]; simp (config := { implicitDefEqProofs := false, maxDischargeDepth := 6, maxSteps := 1000000 }) only [go_sem, ↓reduceIte, Nat.reduceLT, Nat.reduceLeDiff, Nat.reduceEqDiff, Nat.reduceAdd, Nat.reduceMul, Nat.reduceSub, Nat.reduceBEq, reduceCtorEq, Int.reduceEq, Int.reduceLT, Int.reduceLE, Int.reduceNeg, Int.reduceToNat, hnb]
  have hC : G.get (H.next + 1 + 1) = some ⟨4, 0, false, [.bool true]⟩ := by rw [← hG]; simp (config := { implicitDefEqProofs := false, maxDischargeDepth := 6, maxSteps := 1000000 }) only [go_sem, ↓reduceIte, Nat.reduceLT, Nat.reduceLeDiff, Nat.reduceEqDiff, Nat.reduceAdd, Nat.reduceMul, Nat.reduceSub, Nat.reduceBEq, reduceCtorEq, Int.reduceEq, Int.reduceLT, Int.reduceLE, Int.reduceNeg, Int.reduceToNat, hnb]
  have hnx : H.next + 1 + 1 < G.next := hEG.wf.lt hC
  clear hG
  have hb1 : base0 ≤ H.next + 1 := by omega
  have hb2 : base0 ≤ H.next + 1 + 1 := by omega
  have hb3 : H.next + 1 ≠ H.next + 1 + 1 := by omega
  have hb4 : H.next + 1 + 1 ≠ H.next + 1 := by omega
  skip
  all_goals
    simp (config := { implicitDefEqProofs := false, maxDischargeDepth := 6, maxSteps := 1000000 }) only [go_sem, ↓reduceIte, Nat.reduceLT, Nat.reduceLeDiff, Nat.reduceEqDiff, Nat.reduceAdd, Nat.reduceMul, Nat.reduceSub, Nat.reduceBEq, reduceCtorEq, Int.reduceEq, Int.reduceLT, Int.reduceLE, Int.reduceNeg, Int.reduceToNat, hk, hnb, hP, hR, hC, hb1, hb2, hb3, hb4, loads_eq, nv]
    refine ⟨by simp [rightP, okP, restP, hk], ?_⟩
    repeat (first | exact hEG | refine Ext.set ?_ (by omega) (by (try simp only [next_set]); omega) _)

theorem right_13 {H : Heap} (hw : WF H) {a : Act} {len : Nat} (hl : len ≤ 65536) (hk : a.k = 13) : CW Try.prog 20 #[.agg a.cells.toArray, nv len] H fun x H' => x = .ret (.bool (rightP a len)) ∧ Ext H H' := by
  refine CW_k (n := 98) if20 rfl ?_
  unfold C20
  have hnb := hw.1
  simp (config := { implicitDefEqProofs := false, maxDischargeDepth := 6, maxSteps := 1000000 }) only [go_sem, ↓reduceIte, Nat.reduceLT, Nat.reduceLeDiff, Nat.reduceEqDiff, Nat.reduceAdd, Nat.reduceMul, Nat.reduceSub, Nat.reduceBEq, reduceCtorEq, Int.reduceEq, Int.reduceLT, Int.reduceLE, Int.reduceNeg, Int.reduceToNat, hnb, loads_eq, Act.cells]
  have hEG := (((((Ext.refl hw).alloc (⟨47, 0, false, [.int .i64 a.k, .int .i64 a.a, .int .i64 a.b, .int .i64 a.n]⟩ : Blk)).alloc (⟨47, 0, false, [.int .i64 0, .int .i64 0, .int .i64 0, .int .i64 0]⟩ : Blk)).set (b := H.next + 1) (by omega) (by simp only [next_alloc]; omega) (⟨47, 0, false, [.int .i64 0, .int .i64 a.a, .int .i64 a.b, .int .i64 a.n]⟩ : Blk)).alloc
    (⟨4, 0, false, [.bool false]⟩ : Blk)).set (b := H.next + 1 + 1) (by omega) (by simp only [next_alloc, next_set]; omega) (⟨4, 0, false, [.bool true]⟩ : Blk)
  generalize hG : (Heap.set (Heap.alloc _ _) _ _) = G at hEG ⊢
  have hP : G.get H.next = some ⟨47, 0, false, [.int .i64 a.k, .int .i64 a.a, .int .i64 a.b, .int .i64 a.n]⟩ := by rw [← hG]; simp (config := { implicitDefEqProofs := false, maxDischargeDepth := 6, maxSteps := 1000000 }) only [go_sem, ↓reduceIte, Nat.reduceLT, Nat.reduceLeDiff, Nat.reduceEqDiff, Nat.reduceAdd, Nat.reduceMul, Nat.reduceSub, Nat.reduceBEq, reduceCtorEq, Int.reduceEq, Int.reduceLT, Int.reduceLE, Int.reduceNeg, Int.reduceToNat, hnb]
  have hR : G.get (H.next + 1) = some ⟨47, 0, false, [.int .i64 0, .int .i64 a.a, .int .i64 a.b, .int .i64 a.n]⟩ := by rw [← hG]; simp (config := { implicitDefEqProofs := false, maxDischargeDepth := 6, maxSteps := 1000000 }) only [go_sem, ↓reduceIte, Nat.reduceLT, Nat.reduceLeDiff, Nat.reduceEqDiff, Nat.reduceAdd, Nat.reduceMul, Nat.reduceSub, Nat.reduceBEq, reduceCtorEq, Int.reduceEq, Int.reduceLT, Int.reduceLE, Int.reduceNeg, Int.reduceToNat, hnb]
  have hC : G.get (H.next + 1 + 1) = some ⟨4, 0, false, [.bool true]⟩ := by rw [← hG]; simp (config := { implicitDefEqProofs := false, maxDischargeDepth := 6, maxSteps := 1000000 }) only [go_sem, ↓reduceIte, Nat.reduceLT, Nat.reduceLeDiff, Nat.reduceEqDiff, Nat.reduceAdd, Nat.reduceMul, Nat.reduceSub, Nat.reduceBEq, reduceCtorEq, Int.reduceEq, Int.reduceLT, Int.reduceLE, Int.reduceNeg, Int.reduceToNat, hnb]
  have hnx : H.next + 1 + 1 < G.next := hEG.wf.lt hC
  clear hG
  have hb1 : base0 ≤ H.next + 1 := by omega
  have hb2 : base0 ≤ H.next + 1 + 1 := by omega
  have hb3 : H.next + 1 ≠ H.next + 1 + 1 := by omega
  have hb4 : H.next + 1 + 1 ≠ H.next + 1 := by omega
  skip <;> by_cases hn0 : 0 ≤ a.n <;> by_cases hn1 : a.n ≤ (len : Int)
  all_goals
    simp (config := { implicitDefEqProofs := false, maxDischargeDepth := 6, maxSteps := 1000000 }) only [go_sem, ↓reduceIte, Nat.reduceLT, Nat.reduceLeDiff, Nat.reduceEqDiff, Nat.reduceAdd, Nat.reduceMul, Nat.reduceSub, Nat.reduceBEq, reduceCtorEq, Int.reduceEq, Int.reduceLT, Int.reduceLE, Int.reduceNeg, Int.reduceToNat, hk, hnb, hP, hR, hC, hb1, hb2, hb3, hb4, loads_eq, nv, hn0, hn1]
    refine ⟨by simp [rightP, okP, restP, hk, hn0, hn1], ?_⟩
    repeat (first | exact hEG | refine Ext.set ?_ (by omega) (by (try simp only [next_set]); omega) _)

end Go.Am.T
