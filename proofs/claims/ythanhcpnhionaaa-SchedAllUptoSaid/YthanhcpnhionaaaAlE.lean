/- Lemmas for the theorem of the last text: parts SdK to RfE of it. Conditions: those of each theorem. -/
import Derived.Test.YthanhcpnhionaaaAlD
set_option linter.all false
set_option linter.unusedSimpArgs false
set_option linter.unusedVariables false
namespace Go.Am.T
open Go Go.Am Go.Proofs.Ythanhcpnhionaaa Go.Proofs
def eqChain : List Bool → Option Bool
  | [] => some true
  | b :: bs => match b with | true => eqChain bs | false => some false
theorem eqChain_eq (l : List Bool) : eqChain l = some (l.all id) := by
  induction l with
  | nil => rfl
  | cons b l ih => cases b <;> simp [eqChain, ih]
theorem eqA_47 {a b c d a' b' c' d' : Int} : equalA Try.prog 47 (.agg #[.int .i64 a, .int .i64 b, .int .i64 c, .int .i64 d]) (.agg #[.int .i64 a', .int .i64 b', .int .i64 c', .int .i64 d']) = eqChain [a == a', b == b', c == c', d == d'] := by kernel_rfl
theorem eqA_39 {a b a' b' : Int} : equalA Try.prog 39 (.agg #[.int .i64 a, .int .i64 b]) (.agg #[.int .i64 a', .int .i64 b']) = eqChain [a == a', b == b'] := by kernel_rfl
theorem eqA_49 {a b a' b' : Int} : equalA Try.prog 49 (.agg #[.int .i64 a, .int .i64 b]) (.agg #[.int .i64 a', .int .i64 b']) = eqChain [a == a', b == b'] := by kernel_rfl
@[go_sem] theorem eq_47 {a b c d a' b' c' d' : Int} : binA Try.prog .eql 47 (.agg #[.int .i64 a, .int .i64 b, .int .i64 c, .int .i64 d]) (.agg #[.int .i64 a', .int .i64 b', .int .i64 c', .int .i64 d']) = some (.bool (decide (a = a') && (decide (b = b') && (decide (c = c') && decide (d = d'))))) := by
  show (equalA Try.prog 47 _ _).map Value.bool = _
  rw [eqA_47, eqChain_eq]
  simp; rfl
@[go_sem] theorem ne_47 {a b c d a' b' c' d' : Int} : binA Try.prog .neq 47 (.agg #[.int .i64 a, .int .i64 b, .int .i64 c, .int .i64 d]) (.agg #[.int .i64 a', .int .i64 b', .int .i64 c', .int .i64 d']) = some (.bool !(decide (a = a') && (decide (b = b') && (decide (c = c') && decide (d = d'))))) := by
  show (equalA Try.prog 47 _ _).map (fun r => Value.bool !r) = _
  rw [eqA_47, eqChain_eq]
  simp; rfl
@[go_sem] theorem ne_39 {a b a' b' : Int} : binA Try.prog .neq 39 (.agg #[.int .i64 a, .int .i64 b]) (.agg #[.int .i64 a', .int .i64 b']) = some (.bool !(decide (a = a') && decide (b = b'))) := by
  show (equalA Try.prog 39 _ _).map (fun r => Value.bool !r) = _
  rw [eqA_39, eqChain_eq]
  simp; rfl
@[go_sem] theorem ne_49 {a b a' b' : Int} : binA Try.prog .neq 49 (.agg #[.int .i64 a, .int .i64 b]) (.agg #[.int .i64 a', .int .i64 b']) = some (.bool !(decide (a = a') && decide (b = b'))) := by
  show (equalA Try.prog 49 _ _).map (fun r => Value.bool !r) = _
  rw [eqA_49, eqChain_eq]
  simp; rfl
def btw (z m : Int) : Bool := decide (0 ≤ z) && decide (z < m)
theorem between_W {H : Heap} {z m : Int} : CW Try.prog 35 #[.int .i64 z, .int .i64 m] H fun x H' => x = .ret (.bool (btw z m)) ∧ H = H' := by
  refine CW_k (n := 12) if35 rfl ?_
  unfold C35
  by_cases h : 0 ≤ z
  · simp -implicitDefEqProofs (maxDischargeDepth := 6) (maxSteps := 1000000) only [go_sem, ↓reduceIte, Nat.reduceLT, Nat.reduceLeDiff, Nat.reduceEqDiff, Nat.reduceAdd, Nat.reduceMul, Nat.reduceSub, Nat.reduceBEq, reduceCtorEq, Int.reduceEq, Int.reduceLT, Int.reduceLE, Int.reduceNeg, Int.reduceToNat, h, btw]
  · simp -implicitDefEqProofs (maxDischargeDepth := 6) (maxSteps := 1000000) only [go_sem, ↓reduceIte, Nat.reduceLT, Nat.reduceLeDiff, Nat.reduceEqDiff, Nat.reduceAdd, Nat.reduceMul, Nat.reduceSub, Nat.reduceBEq, reduceCtorEq, Int.reduceEq, Int.reduceLT, Int.reduceLE, Int.reduceNeg, Int.reduceToNat, h, btw]
theorem use_W {H : Heap} {b c o : Nat} {cs : List Value} {z m : Int} {ok : Bool} (hbb : base0 ≤ b) (hcb : base0 ≤ c) (hbc : b ≠ c) (hb : H.get b = some ⟨47, 0, false, cs⟩) (ho : cs[o]? = some (.int .i64 z)) (hc : H.get c = some ⟨4, 0, false, [.bool ok]⟩) :
    CW Try.prog 34 #[.pointer (some ⟨b, o, none⟩), .int .i64 m, .pointer (some ⟨c, 0, none⟩)] H fun x H' => x = .ret (.tuple #[]) ∧ (H.set c ⟨4, 0, false, [.bool (ok && btw z m)]⟩).set b ⟨47, 0, false, cs.set o (.int .i64 0)⟩ = H' := by
  refine CW_k (n := 15) if34 rfl ?_
  unfold C34
  have hol : o < cs.length := (List.getElem?_eq_some_iff.1 ho).1
  cases ok with
  | false => simp -implicitDefEqProofs (maxDischargeDepth := 6) (maxSteps := 1000000) only [go_sem, ↓reduceIte, Nat.reduceLT, Nat.reduceLeDiff, Nat.reduceEqDiff, Nat.reduceAdd, Nat.reduceMul, Nat.reduceSub, Nat.reduceBEq, reduceCtorEq, Int.reduceEq, Int.reduceLT, Int.reduceLE, Int.reduceNeg, Int.reduceToNat, hb, hc, ho, hbb, hcb, hbc, hol]
  | true =>
    simp -implicitDefEqProofs (maxDischargeDepth := 6) (maxSteps := 1000000) only [go_sem, ↓reduceIte, Nat.reduceLT, Nat.reduceLeDiff, Nat.reduceEqDiff, Nat.reduceAdd, Nat.reduceMul, Nat.reduceSub, Nat.reduceBEq, reduceCtorEq, Int.reduceEq, Int.reduceLT, Int.reduceLE, Int.reduceNeg, Int.reduceToNat, hb, hc, ho, hbb, hcb, hbc, hol]
    refine CW_mono _ between_W ?_
    rintro _ _ ⟨rfl, rfl⟩
    simp -implicitDefEqProofs (maxDischargeDepth := 6) (maxSteps := 1000000) only [go_sem, ↓reduceIte, Nat.reduceLT, Nat.reduceLeDiff, Nat.reduceEqDiff, Nat.reduceAdd, Nat.reduceMul, Nat.reduceSub, Nat.reduceBEq, reduceCtorEq, Int.reduceEq, Int.reduceLT, Int.reduceLE, Int.reduceNeg, Int.reduceToNat, hb, hc, ho, hbb, hcb, hbc, hol]
def okP (a : Act) (len : Nat) : Bool :=
  if a.k = 1 ∨ a.k = 2 ∨ a.k = 4 ∨ a.k = 5 then btw a.a 4
  else if a.k = 3 then btw a.a 4 && btw a.b 4
  else if a.k = 6 then btw a.a 4
  else if a.k = 7 then btw a.a 4 && btw a.b 8
  else if a.k = 8 then btw a.a 8
  else if a.k = 9 then btw a.a 8 && btw a.b 8
  else if a.k = 10 then btw a.a 8 && decide (0 ≤ a.n) && decide (a.n ≤ 255)
  else if a.k = 13 then decide (0 ≤ a.n) && decide (a.n ≤ (len : Int))
  else true
def restP (a : Act) : Bool :=
  if a.k = 1 ∨ a.k = 2 ∨ a.k = 4 ∨ a.k = 5 then decide (a.b = 0) && decide (a.n = 0)
  else if a.k = 3 then decide (a.n = 0)
  else if a.k = 6 then decide (a.b = 0)
  else if a.k = 7 then decide (a.n = 0)
  else if a.k = 8 then decide (a.b = 0)
  else if a.k = 9 then decide (a.n = 0)
  else if a.k = 10 then decide (a.b = 0)
  else if a.k = 12 ∨ a.k = 13 then decide (a.a = 0) && decide (a.b = 0)
  else decide (a.a = 0) && (decide (a.b = 0) && decide (a.n = 0))
def rightP (a : Act) (len : Nat) : Bool := okP a len && restP a
theorem right_1 {H : Heap} (hw : WF H) {a : Act} {len : Nat} (hl : len ≤ 65536) (hk : a.k = 1) : CW Try.prog 20 #[.agg a.cells.toArray, nv len] H fun x H' => x = .ret (.bool (rightP a len)) ∧ Ext H H' := by
  refine CW_k (n := 98) if20 rfl ?_
  unfold C20
  have hnb := hw.1
  simp -implicitDefEqProofs (maxDischargeDepth := 6) (maxSteps := 1000000) only [go_sem, ↓reduceIte, Nat.reduceLT, Nat.reduceLeDiff, Nat.reduceEqDiff, Nat.reduceAdd, Nat.reduceMul, Nat.reduceSub, Nat.reduceBEq, reduceCtorEq, Int.reduceEq, Int.reduceLT, Int.reduceLE, Int.reduceNeg, Int.reduceToNat, hnb, loads_eq, Act.cells]
  have hEG := (((((Ext.refl hw).alloc (⟨47, 0, false, [.int .i64 a.k, .int .i64 a.a, .int .i64 a.b, .int .i64 a.n]⟩ : Blk)).alloc (⟨47, 0, false, [.int .i64 0, .int .i64 0, .int .i64 0, .int .i64 0]⟩ : Blk)).set (b := H.next + 1) (by omega) (by simp only [next_alloc]; omega) (⟨47, 0, false, [.int .i64 0, .int .i64 a.a, .int .i64 a.b, .int .i64 a.n]⟩ : Blk)).alloc
    (⟨4, 0, false, [.bool false]⟩ : Blk)).set (b := H.next + 1 + 1) (by omega) (by simp only [next_alloc, next_set]; omega) (⟨4, 0, false, [.bool true]⟩ : Blk)
  generalize hG : (Heap.set (Heap.alloc _ _) _ _) = G at hEG ⊢
  have hP : G.get H.next = some ⟨47, 0, false, [.int .i64 a.k, .int .i64 a.a, .int .i64 a.b, .int .i64 a.n]⟩ := by rw [← hG]; simp -implicitDefEqProofs (maxDischargeDepth := 6) (maxSteps := 1000000) only [go_sem, ↓reduceIte, Nat.reduceLT, Nat.reduceLeDiff, Nat.reduceEqDiff, Nat.reduceAdd, Nat.reduceMul, Nat.reduceSub, Nat.reduceBEq, reduceCtorEq, Int.reduceEq, Int.reduceLT, Int.reduceLE, Int.reduceNeg, Int.reduceToNat, hnb]
  have hR : G.get (H.next + 1) = some ⟨47, 0, false, [.int .i64 0, .int .i64 a.a, .int .i64 a.b, .int .i64 a.n]⟩ := by rw [← hG]; simp -implicitDefEqProofs (maxDischargeDepth := 6) (maxSteps := 1000000) only [go_sem, ↓reduceIte, Nat.reduceLT, Nat.reduceLeDiff, Nat.reduceEqDiff, Nat.reduceAdd, Nat.reduceMul, Nat.reduceSub, Nat.reduceBEq, reduceCtorEq, Int.reduceEq, Int.reduceLT, Int.reduceLE, Int.reduceNeg, Int.reduceToNat, hnb]
  have hC : G.get (H.next + 1 + 1) = some ⟨4, 0, false, [.bool true]⟩ := by rw [← hG]; simp -implicitDefEqProofs (maxDischargeDepth := 6) (maxSteps := 1000000) only [go_sem, ↓reduceIte, Nat.reduceLT, Nat.reduceLeDiff, Nat.reduceEqDiff, Nat.reduceAdd, Nat.reduceMul, Nat.reduceSub, Nat.reduceBEq, reduceCtorEq, Int.reduceEq, Int.reduceLT, Int.reduceLE, Int.reduceNeg, Int.reduceToNat, hnb]
  have hnx : H.next + 1 + 1 < G.next := hEG.wf.lt hC
  clear hG
  have hb1 : base0 ≤ H.next + 1 := by omega
  have hb2 : base0 ≤ H.next + 1 + 1 := by omega
  have hb3 : H.next + 1 ≠ H.next + 1 + 1 := by omega
  have hb4 : H.next + 1 + 1 ≠ H.next + 1 := by omega
  skip <;> cases hu0 : btw a.a 4
  all_goals
    simp -implicitDefEqProofs (maxDischargeDepth := 6) (maxSteps := 1000000) only [go_sem, ↓reduceIte, Nat.reduceLT, Nat.reduceLeDiff, Nat.reduceEqDiff, Nat.reduceAdd, Nat.reduceMul, Nat.reduceSub, Nat.reduceBEq, reduceCtorEq, Int.reduceEq, Int.reduceLT, Int.reduceLE, Int.reduceNeg, Int.reduceToNat, hk, hnb, hP, hR, hC, hb1, hb2, hb3, hb4, loads_eq, nv, hu0]
    refine CW_mono _ (use_W (cs := [.int .i64 0, .int .i64 a.a, .int .i64 a.b, .int .i64 a.n]) (z := a.a) (ok := true) hb1 hb2 hb3 (by simp -implicitDefEqProofs (maxDischargeDepth := 6) (maxSteps := 1000000) only [go_sem, ↓reduceIte, Nat.reduceLT, Nat.reduceLeDiff, Nat.reduceEqDiff, Nat.reduceAdd, Nat.reduceMul, Nat.reduceSub, Nat.reduceBEq, reduceCtorEq, Int.reduceEq, Int.reduceLT, Int.reduceLE, Int.reduceNeg, Int.reduceToNat, hnb, hP, hR, hC, hb1, hb2, hb3, hb4, loads_eq, nv, hu0]) rfl (by simp -implicitDefEqProofs (maxDischargeDepth := 6) (maxSteps := 1000000) only [go_sem, ↓reduceIte, Nat.reduceLT, Nat.reduceLeDiff, Nat.reduceEqDiff, Nat.reduceAdd, Nat.reduceMul, Nat.reduceSub, Nat.reduceBEq, reduceCtorEq, Int.reduceEq, Int.reduceLT, Int.reduceLE, Int.reduceNeg, Int.reduceToNat, hnb, hP, hR, hC, hb1, hb2, hb3, hb4, loads_eq, nv, hu0])) ?_
    rintro _ _ ⟨rfl, rfl⟩
    simp -implicitDefEqProofs (maxDischargeDepth := 6) (maxSteps := 1000000) only [go_sem, ↓reduceIte, Nat.reduceLT, Nat.reduceLeDiff, Nat.reduceEqDiff, Nat.reduceAdd, Nat.reduceMul, Nat.reduceSub, Nat.reduceBEq, reduceCtorEq, Int.reduceEq, Int.reduceLT, Int.reduceLE, Int.reduceNeg, Int.reduceToNat, hk, hnb, hP, hR, hC, hb1, hb2, hb3, hb4, loads_eq, nv, hu0]
    refine ⟨by simp [rightP, okP, restP, hk, hu0], ?_⟩
    repeat (first | exact hEG | refine Ext.set ?_ (by omega) (by (try simp only [next_set]); omega) _)
theorem right_2 {H : Heap} (hw : WF H) {a : Act} {len : Nat} (hl : len ≤ 65536) (hk : a.k = 2) : CW Try.prog 20 #[.agg a.cells.toArray, nv len] H fun x H' => x = .ret (.bool (rightP a len)) ∧ Ext H H' := by
  refine CW_k (n := 98) if20 rfl ?_
  unfold C20
  have hnb := hw.1
  simp -implicitDefEqProofs (maxDischargeDepth := 6) (maxSteps := 1000000) only [go_sem, ↓reduceIte, Nat.reduceLT, Nat.reduceLeDiff, Nat.reduceEqDiff, Nat.reduceAdd, Nat.reduceMul, Nat.reduceSub, Nat.reduceBEq, reduceCtorEq, Int.reduceEq, Int.reduceLT, Int.reduceLE, Int.reduceNeg, Int.reduceToNat, hnb, loads_eq, Act.cells]
  have hEG := (((((Ext.refl hw).alloc (⟨47, 0, false, [.int .i64 a.k, .int .i64 a.a, .int .i64 a.b, .int .i64 a.n]⟩ : Blk)).alloc (⟨47, 0, false, [.int .i64 0, .int .i64 0, .int .i64 0, .int .i64 0]⟩ : Blk)).set (b := H.next + 1) (by omega) (by simp only [next_alloc]; omega) (⟨47, 0, false, [.int .i64 0, .int .i64 a.a, .int .i64 a.b, .int .i64 a.n]⟩ : Blk)).alloc
    (⟨4, 0, false, [.bool false]⟩ : Blk)).set (b := H.next + 1 + 1) (by omega) (by simp only [next_alloc, next_set]; omega) (⟨4, 0, false, [.bool true]⟩ : Blk)
  generalize hG : (Heap.set (Heap.alloc _ _) _ _) = G at hEG ⊢
  have hP : G.get H.next = some ⟨47, 0, false, [.int .i64 a.k, .int .i64 a.a, .int .i64 a.b, .int .i64 a.n]⟩ := by rw [← hG]; simp -implicitDefEqProofs (maxDischargeDepth := 6) (maxSteps := 1000000) only [go_sem, ↓reduceIte, Nat.reduceLT, Nat.reduceLeDiff, Nat.reduceEqDiff, Nat.reduceAdd, Nat.reduceMul, Nat.reduceSub, Nat.reduceBEq, reduceCtorEq, Int.reduceEq, Int.reduceLT, Int.reduceLE, Int.reduceNeg, Int.reduceToNat, hnb]
  have hR : G.get (H.next + 1) = some ⟨47, 0, false, [.int .i64 0, .int .i64 a.a, .int .i64 a.b, .int .i64 a.n]⟩ := by rw [← hG]; simp -implicitDefEqProofs (maxDischargeDepth := 6) (maxSteps := 1000000) only [go_sem, ↓reduceIte, Nat.reduceLT, Nat.reduceLeDiff, Nat.reduceEqDiff, Nat.reduceAdd, Nat.reduceMul, Nat.reduceSub, Nat.reduceBEq, reduceCtorEq, Int.reduceEq, Int.reduceLT, Int.reduceLE, Int.reduceNeg, Int.reduceToNat, hnb]
  have hC : G.get (H.next + 1 + 1) = some ⟨4, 0, false, [.bool true]⟩ := by rw [← hG]; simp -implicitDefEqProofs (maxDischargeDepth := 6) (maxSteps := 1000000) only [go_sem, ↓reduceIte, Nat.reduceLT, Nat.reduceLeDiff, Nat.reduceEqDiff, Nat.reduceAdd, Nat.reduceMul, Nat.reduceSub, Nat.reduceBEq, reduceCtorEq, Int.reduceEq, Int.reduceLT, Int.reduceLE, Int.reduceNeg, Int.reduceToNat, hnb]
  have hnx : H.next + 1 + 1 < G.next := hEG.wf.lt hC
  clear hG
  have hb1 : base0 ≤ H.next + 1 := by omega
  have hb2 : base0 ≤ H.next + 1 + 1 := by omega
  have hb3 : H.next + 1 ≠ H.next + 1 + 1 := by omega
  have hb4 : H.next + 1 + 1 ≠ H.next + 1 := by omega
  skip <;> cases hu0 : btw a.a 4
  all_goals
    simp -implicitDefEqProofs (maxDischargeDepth := 6) (maxSteps := 1000000) only [go_sem, ↓reduceIte, Nat.reduceLT, Nat.reduceLeDiff, Nat.reduceEqDiff, Nat.reduceAdd, Nat.reduceMul, Nat.reduceSub, Nat.reduceBEq, reduceCtorEq, Int.reduceEq, Int.reduceLT, Int.reduceLE, Int.reduceNeg, Int.reduceToNat, hk, hnb, hP, hR, hC, hb1, hb2, hb3, hb4, loads_eq, nv, hu0]
    refine CW_mono _ (use_W (cs := [.int .i64 0, .int .i64 a.a, .int .i64 a.b, .int .i64 a.n]) (z := a.a) (ok := true) hb1 hb2 hb3 (by simp -implicitDefEqProofs (maxDischargeDepth := 6) (maxSteps := 1000000) only [go_sem, ↓reduceIte, Nat.reduceLT, Nat.reduceLeDiff, Nat.reduceEqDiff, Nat.reduceAdd, Nat.reduceMul, Nat.reduceSub, Nat.reduceBEq, reduceCtorEq, Int.reduceEq, Int.reduceLT, Int.reduceLE, Int.reduceNeg, Int.reduceToNat, hnb, hP, hR, hC, hb1, hb2, hb3, hb4, loads_eq, nv, hu0]) rfl (by simp -implicitDefEqProofs (maxDischargeDepth := 6) (maxSteps := 1000000) only [go_sem, ↓reduceIte, Nat.reduceLT, Nat.reduceLeDiff, Nat.reduceEqDiff, Nat.reduceAdd, Nat.reduceMul, Nat.reduceSub, Nat.reduceBEq, reduceCtorEq, Int.reduceEq, Int.reduceLT, Int.reduceLE, Int.reduceNeg, Int.reduceToNat, hnb, hP, hR, hC, hb1, hb2, hb3, hb4, loads_eq, nv, hu0])) ?_
    rintro _ _ ⟨rfl, rfl⟩
    simp -implicitDefEqProofs (maxDischargeDepth := 6) (maxSteps := 1000000) only [go_sem, ↓reduceIte, Nat.reduceLT, Nat.reduceLeDiff, Nat.reduceEqDiff, Nat.reduceAdd, Nat.reduceMul, Nat.reduceSub, Nat.reduceBEq, reduceCtorEq, Int.reduceEq, Int.reduceLT, Int.reduceLE, Int.reduceNeg, Int.reduceToNat, hk, hnb, hP, hR, hC, hb1, hb2, hb3, hb4, loads_eq, nv, hu0]
    refine ⟨by simp [rightP, okP, restP, hk, hu0], ?_⟩
    repeat (first | exact hEG | refine Ext.set ?_ (by omega) (by (try simp only [next_set]); omega) _)
theorem right_4 {H : Heap} (hw : WF H) {a : Act} {len : Nat} (hl : len ≤ 65536) (hk : a.k = 4) : CW Try.prog 20 #[.agg a.cells.toArray, nv len] H fun x H' => x = .ret (.bool (rightP a len)) ∧ Ext H H' := by
  refine CW_k (n := 98) if20 rfl ?_
  unfold C20
  have hnb := hw.1
  simp -implicitDefEqProofs (maxDischargeDepth := 6) (maxSteps := 1000000) only [go_sem, ↓reduceIte, Nat.reduceLT, Nat.reduceLeDiff, Nat.reduceEqDiff, Nat.reduceAdd, Nat.reduceMul, Nat.reduceSub, Nat.reduceBEq, reduceCtorEq, Int.reduceEq, Int.reduceLT, Int.reduceLE, Int.reduceNeg, Int.reduceToNat, hnb, loads_eq, Act.cells]
  have hEG := (((((Ext.refl hw).alloc (⟨47, 0, false, [.int .i64 a.k, .int .i64 a.a, .int .i64 a.b, .int .i64 a.n]⟩ : Blk)).alloc (⟨47, 0, false, [.int .i64 0, .int .i64 0, .int .i64 0, .int .i64 0]⟩ : Blk)).set (b := H.next + 1) (by omega) (by simp only [next_alloc]; omega) (⟨47, 0, false, [.int .i64 0, .int .i64 a.a, .int .i64 a.b, .int .i64 a.n]⟩ : Blk)).alloc
    (⟨4, 0, false, [.bool false]⟩ : Blk)).set (b := H.next + 1 + 1) (by omega) (by simp only [next_alloc, next_set]; omega) (⟨4, 0, false, [.bool true]⟩ : Blk)
  generalize hG : (Heap.set (Heap.alloc _ _) _ _) = G at hEG ⊢
  have hP : G.get H.next = some ⟨47, 0, false, [.int .i64 a.k, .int .i64 a.a, .int .i64 a.b, .int .i64 a.n]⟩ := by rw [← hG]; simp -implicitDefEqProofs (maxDischargeDepth := 6) (maxSteps := 1000000) only [go_sem, ↓reduceIte, Nat.reduceLT, Nat.reduceLeDiff, Nat.reduceEqDiff, Nat.reduceAdd, Nat.reduceMul, Nat.reduceSub, Nat.reduceBEq, reduceCtorEq, Int.reduceEq, Int.reduceLT, Int.reduceLE, Int.reduceNeg, Int.reduceToNat, hnb]
  have hR : G.get (H.next + 1) = some ⟨47, 0, false, [.int .i64 0, .int .i64 a.a, .int .i64 a.b, .int .i64 a.n]⟩ := by rw [← hG]; simp -implicitDefEqProofs (maxDischargeDepth := 6) (maxSteps := 1000000) only [go_sem, ↓reduceIte, Nat.reduceLT, Nat.reduceLeDiff, Nat.reduceEqDiff, Nat.reduceAdd, Nat.reduceMul, Nat.reduceSub, Nat.reduceBEq, reduceCtorEq, Int.reduceEq, Int.reduceLT, Int.reduceLE, Int.reduceNeg, Int.reduceToNat, hnb]
  have hC : G.get (H.next + 1 + 1) = some ⟨4, 0, false, [.bool true]⟩ := by rw [← hG]; simp -implicitDefEqProofs (maxDischargeDepth := 6) (maxSteps := 1000000) only [go_sem, ↓reduceIte, Nat.reduceLT, Nat.reduceLeDiff, Nat.reduceEqDiff, Nat.reduceAdd, Nat.reduceMul, Nat.reduceSub, Nat.reduceBEq, reduceCtorEq, Int.reduceEq, Int.reduceLT, Int.reduceLE, Int.reduceNeg, Int.reduceToNat, hnb]
  have hnx : H.next + 1 + 1 < G.next := hEG.wf.lt hC
  clear hG
  have hb1 : base0 ≤ H.next + 1 := by omega
  have hb2 : base0 ≤ H.next + 1 + 1 := by omega
  have hb3 : H.next + 1 ≠ H.next + 1 + 1 := by omega
  have hb4 : H.next + 1 + 1 ≠ H.next + 1 := by omega
  skip <;> cases hu0 : btw a.a 4
  all_goals
    simp -implicitDefEqProofs (maxDischargeDepth := 6) (maxSteps := 1000000) only [go_sem, ↓reduceIte, Nat.reduceLT, Nat.reduceLeDiff, Nat.reduceEqDiff, Nat.reduceAdd, Nat.reduceMul, Nat.reduceSub, Nat.reduceBEq, reduceCtorEq, Int.reduceEq, Int.reduceLT, Int.reduceLE, Int.reduceNeg, Int.reduceToNat, hk, hnb, hP, hR, hC, hb1, hb2, hb3, hb4, loads_eq, nv, hu0]
    refine CW_mono _ (use_W (cs := [.int .i64 0, .int .i64 a.a, .int .i64 a.b, .int .i64 a.n]) (z := a.a) (ok := true) hb1 hb2 hb3 (by simp -implicitDefEqProofs (maxDischargeDepth := 6) (maxSteps := 1000000) only [go_sem, ↓reduceIte, Nat.reduceLT, Nat.reduceLeDiff, Nat.reduceEqDiff, Nat.reduceAdd, Nat.reduceMul, Nat.reduceSub, Nat.reduceBEq, reduceCtorEq, Int.reduceEq, Int.reduceLT, Int.reduceLE, Int.reduceNeg, Int.reduceToNat, hnb, hP, hR, hC, hb1, hb2, hb3, hb4, loads_eq, nv, hu0]) rfl (by simp -implicitDefEqProofs (maxDischargeDepth := 6) (maxSteps := 1000000) only [go_sem, ↓reduceIte, Nat.reduceLT, Nat.reduceLeDiff, Nat.reduceEqDiff, Nat.reduceAdd, Nat.reduceMul, Nat.reduceSub, Nat.reduceBEq, reduceCtorEq, Int.reduceEq, Int.reduceLT, Int.reduceLE, Int.reduceNeg, Int.reduceToNat, hnb, hP, hR, hC, hb1, hb2, hb3, hb4, loads_eq, nv, hu0])) ?_
    rintro _ _ ⟨rfl, rfl⟩
    simp -implicitDefEqProofs (maxDischargeDepth := 6) (maxSteps := 1000000) only [go_sem, ↓reduceIte, Nat.reduceLT, Nat.reduceLeDiff, Nat.reduceEqDiff, Nat.reduceAdd, Nat.reduceMul, Nat.reduceSub, Nat.reduceBEq, reduceCtorEq, Int.reduceEq, Int.reduceLT, Int.reduceLE, Int.reduceNeg, Int.reduceToNat, hk, hnb, hP, hR, hC, hb1, hb2, hb3, hb4, loads_eq, nv, hu0]
    refine ⟨by simp [rightP, okP, restP, hk, hu0], ?_⟩
    repeat (first | exact hEG | refine Ext.set ?_ (by omega) (by (try simp only [next_set]); omega) _)
theorem right_5 {H : Heap} (hw : WF H) {a : Act} {len : Nat} (hl : len ≤ 65536) (hk : a.k = 5) : CW Try.prog 20 #[.agg a.cells.toArray, nv len] H fun x H' => x = .ret (.bool (rightP a len)) ∧ Ext H H' := by
  refine CW_k (n := 98) if20 rfl ?_
  unfold C20
  have hnb := hw.1
  simp -implicitDefEqProofs (maxDischargeDepth := 6) (maxSteps := 1000000) only [go_sem, ↓reduceIte, Nat.reduceLT, Nat.reduceLeDiff, Nat.reduceEqDiff, Nat.reduceAdd, Nat.reduceMul, Nat.reduceSub, Nat.reduceBEq, reduceCtorEq, Int.reduceEq, Int.reduceLT, Int.reduceLE, Int.reduceNeg, Int.reduceToNat, hnb, loads_eq, Act.cells]
  have hEG := (((((Ext.refl hw).alloc (⟨47, 0, false, [.int .i64 a.k, .int .i64 a.a, .int .i64 a.b, .int .i64 a.n]⟩ : Blk)).alloc (⟨47, 0, false, [.int .i64 0, .int .i64 0, .int .i64 0, .int .i64 0]⟩ : Blk)).set (b := H.next + 1) (by omega) (by simp only [next_alloc]; omega) (⟨47, 0, false, [.int .i64 0, .int .i64 a.a, .int .i64 a.b, .int .i64 a.n]⟩ : Blk)).alloc
    (⟨4, 0, false, [.bool false]⟩ : Blk)).set (b := H.next + 1 + 1) (by omega) (by simp only [next_alloc, next_set]; omega) (⟨4, 0, false, [.bool true]⟩ : Blk)
  generalize hG : (Heap.set (Heap.alloc _ _) _ _) = G at hEG ⊢
  have hP : G.get H.next = some ⟨47, 0, false, [.int .i64 a.k, .int .i64 a.a, .int .i64 a.b, .int .i64 a.n]⟩ := by rw [← hG]; simp -implicitDefEqProofs (maxDischargeDepth := 6) (maxSteps := 1000000) only [go_sem, ↓reduceIte, Nat.reduceLT, Nat.reduceLeDiff, Nat.reduceEqDiff, Nat.reduceAdd, Nat.reduceMul, Nat.reduceSub, Nat.reduceBEq, reduceCtorEq, Int.reduceEq, Int.reduceLT, Int.reduceLE, Int.reduceNeg, Int.reduceToNat, hnb]
  have hR : G.get (H.next + 1) = some ⟨47, 0, false, [.int .i64 0, .int .i64 a.a, .int .i64 a.b, .int .i64 a.n]⟩ := by rw [← hG]; simp -implicitDefEqProofs (maxDischargeDepth := 6) (maxSteps := 1000000) only [go_sem, ↓reduceIte, Nat.reduceLT, Nat.reduceLeDiff, Nat.reduceEqDiff, Nat.reduceAdd, Nat.reduceMul, Nat.reduceSub, Nat.reduceBEq, reduceCtorEq, Int.reduceEq, Int.reduceLT, Int.reduceLE, Int.reduceNeg, Int.reduceToNat, hnb]
  have hC : G.get (H.next + 1 + 1) = some ⟨4, 0, false, [.bool true]⟩ := by rw [← hG]; simp -implicitDefEqProofs (maxDischargeDepth := 6) (maxSteps := 1000000) only [go_sem, ↓reduceIte, Nat.reduceLT, Nat.reduceLeDiff, Nat.reduceEqDiff, Nat.reduceAdd, Nat.reduceMul, Nat.reduceSub, Nat.reduceBEq, reduceCtorEq, Int.reduceEq, Int.reduceLT, Int.reduceLE, Int.reduceNeg, Int.reduceToNat, hnb]
  have hnx : H.next + 1 + 1 < G.next := hEG.wf.lt hC
  clear hG
  have hb1 : base0 ≤ H.next + 1 := by omega
  have hb2 : base0 ≤ H.next + 1 + 1 := by omega
  have hb3 : H.next + 1 ≠ H.next + 1 + 1 := by omega
  have hb4 : H.next + 1 + 1 ≠ H.next + 1 := by omega
  skip <;> cases hu0 : btw a.a 4
  all_goals
    simp -implicitDefEqProofs (maxDischargeDepth := 6) (maxSteps := 1000000) only [go_sem, ↓reduceIte, Nat.reduceLT, Nat.reduceLeDiff, Nat.reduceEqDiff, Nat.reduceAdd, Nat.reduceMul, Nat.reduceSub, Nat.reduceBEq, reduceCtorEq, Int.reduceEq, Int.reduceLT, Int.reduceLE, Int.reduceNeg, Int.reduceToNat, hk, hnb, hP, hR, hC, hb1, hb2, hb3, hb4, loads_eq, nv, hu0]
    refine CW_mono _ (use_W (cs := [.int .i64 0, .int .i64 a.a, .int .i64 a.b, .int .i64 a.n]) (z := a.a) (ok := true) hb1 hb2 hb3 (by simp -implicitDefEqProofs (maxDischargeDepth := 6) (maxSteps := 1000000) only [go_sem, ↓reduceIte, Nat.reduceLT, Nat.reduceLeDiff, Nat.reduceEqDiff, Nat.reduceAdd, Nat.reduceMul, Nat.reduceSub, Nat.reduceBEq, reduceCtorEq, Int.reduceEq, Int.reduceLT, Int.reduceLE, Int.reduceNeg, Int.reduceToNat, hnb, hP, hR, hC, hb1, hb2, hb3, hb4, loads_eq, nv, hu0]) rfl (by simp -implicitDefEqProofs (maxDischargeDepth := 6) (maxSteps := 1000000) only [go_sem, ↓reduceIte, Nat.reduceLT, Nat.reduceLeDiff, Nat.reduceEqDiff, Nat.reduceAdd, Nat.reduceMul, Nat.reduceSub, Nat.reduceBEq, reduceCtorEq, Int.reduceEq, Int.reduceLT, Int.reduceLE, Int.reduceNeg, Int.reduceToNat, hnb, hP, hR, hC, hb1, hb2, hb3, hb4, loads_eq, nv, hu0])) ?_
    rintro _ _ ⟨rfl, rfl⟩
    simp -implicitDefEqProofs (maxDischargeDepth := 6) (maxSteps := 1000000) only [go_sem, ↓reduceIte, Nat.reduceLT, Nat.reduceLeDiff, Nat.reduceEqDiff, Nat.reduceAdd, Nat.reduceMul, Nat.reduceSub, Nat.reduceBEq, reduceCtorEq, Int.reduceEq, Int.reduceLT, Int.reduceLE, Int.reduceNeg, Int.reduceToNat, hk, hnb, hP, hR, hC, hb1, hb2, hb3, hb4, loads_eq, nv, hu0]
    refine ⟨by simp [rightP, okP, restP, hk, hu0], ?_⟩
    repeat (first | exact hEG | refine Ext.set ?_ (by omega) (by (try simp only [next_set]); omega) _)
theorem right_6 {H : Heap} (hw : WF H) {a : Act} {len : Nat} (hl : len ≤ 65536) (hk : a.k = 6) : CW Try.prog 20 #[.agg a.cells.toArray, nv len] H fun x H' => x = .ret (.bool (rightP a len)) ∧ Ext H H' := by
  refine CW_k (n := 98) if20 rfl ?_
  unfold C20
  have hnb := hw.1
  simp -implicitDefEqProofs (maxDischargeDepth := 6) (maxSteps := 1000000) only [go_sem, ↓reduceIte, Nat.reduceLT, Nat.reduceLeDiff, Nat.reduceEqDiff, Nat.reduceAdd, Nat.reduceMul, Nat.reduceSub, Nat.reduceBEq, reduceCtorEq, Int.reduceEq, Int.reduceLT, Int.reduceLE, Int.reduceNeg, Int.reduceToNat, hnb, loads_eq, Act.cells]
  have hEG := (((((Ext.refl hw).alloc (⟨47, 0, false, [.int .i64 a.k, .int .i64 a.a, .int .i64 a.b, .int .i64 a.n]⟩ : Blk)).alloc (⟨47, 0, false, [.int .i64 0, .int .i64 0, .int .i64 0, .int .i64 0]⟩ : Blk)).set (b := H.next + 1) (by omega) (by simp only [next_alloc]; omega) (⟨47, 0, false, [.int .i64 0, .int .i64 a.a, .int .i64 a.b, .int .i64 a.n]⟩ : Blk)).alloc
    (⟨4, 0, false, [.bool false]⟩ : Blk)).set (b := H.next + 1 + 1) (by omega) (by simp only [next_alloc, next_set]; omega) (⟨4, 0, false, [.bool true]⟩ : Blk)
  generalize hG : (Heap.set (Heap.alloc _ _) _ _) = G at hEG ⊢
  have hP : G.get H.next = some ⟨47, 0, false, [.int .i64 a.k, .int .i64 a.a, .int .i64 a.b, .int .i64 a.n]⟩ := by rw [← hG]; simp -implicitDefEqProofs (maxDischargeDepth := 6) (maxSteps := 1000000) only [go_sem, ↓reduceIte, Nat.reduceLT, Nat.reduceLeDiff, Nat.reduceEqDiff, Nat.reduceAdd, Nat.reduceMul, Nat.reduceSub, Nat.reduceBEq, reduceCtorEq, Int.reduceEq, Int.reduceLT, Int.reduceLE, Int.reduceNeg, Int.reduceToNat, hnb]
  have hR : G.get (H.next + 1) = some ⟨47, 0, false, [.int .i64 0, .int .i64 a.a, .int .i64 a.b, .int .i64 a.n]⟩ := by rw [← hG]; simp -implicitDefEqProofs (maxDischargeDepth := 6) (maxSteps := 1000000) only [go_sem, ↓reduceIte, Nat.reduceLT, Nat.reduceLeDiff, Nat.reduceEqDiff, Nat.reduceAdd, Nat.reduceMul, Nat.reduceSub, Nat.reduceBEq, reduceCtorEq, Int.reduceEq, Int.reduceLT, Int.reduceLE, Int.reduceNeg, Int.reduceToNat, hnb]
  have hC : G.get (H.next + 1 + 1) = some ⟨4, 0, false, [.bool true]⟩ := by rw [← hG]; simp -implicitDefEqProofs (maxDischargeDepth := 6) (maxSteps := 1000000) only [go_sem, ↓reduceIte, Nat.reduceLT, Nat.reduceLeDiff, Nat.reduceEqDiff, Nat.reduceAdd, Nat.reduceMul, Nat.reduceSub, Nat.reduceBEq, reduceCtorEq, Int.reduceEq, Int.reduceLT, Int.reduceLE, Int.reduceNeg, Int.reduceToNat, hnb]
  have hnx : H.next + 1 + 1 < G.next := hEG.wf.lt hC
  clear hG
  have hb1 : base0 ≤ H.next + 1 := by omega
  have hb2 : base0 ≤ H.next + 1 + 1 := by omega
  have hb3 : H.next + 1 ≠ H.next + 1 + 1 := by omega
  have hb4 : H.next + 1 + 1 ≠ H.next + 1 := by omega
  skip <;> cases hu0 : btw a.a 4
  all_goals
    simp -implicitDefEqProofs (maxDischargeDepth := 6) (maxSteps := 1000000) only [go_sem, ↓reduceIte, Nat.reduceLT, Nat.reduceLeDiff, Nat.reduceEqDiff, Nat.reduceAdd, Nat.reduceMul, Nat.reduceSub, Nat.reduceBEq, reduceCtorEq, Int.reduceEq, Int.reduceLT, Int.reduceLE, Int.reduceNeg, Int.reduceToNat, hk, hnb, hP, hR, hC, hb1, hb2, hb3, hb4, loads_eq, nv, hu0]
    refine CW_mono _ (use_W (cs := [.int .i64 0, .int .i64 a.a, .int .i64 a.b, .int .i64 a.n]) (z := a.a) (ok := true) hb1 hb2 hb3 (by simp -implicitDefEqProofs (maxDischargeDepth := 6) (maxSteps := 1000000) only [go_sem, ↓reduceIte, Nat.reduceLT, Nat.reduceLeDiff, Nat.reduceEqDiff, Nat.reduceAdd, Nat.reduceMul, Nat.reduceSub, Nat.reduceBEq, reduceCtorEq, Int.reduceEq, Int.reduceLT, Int.reduceLE, Int.reduceNeg, Int.reduceToNat, hnb, hP, hR, hC, hb1, hb2, hb3, hb4, loads_eq, nv, hu0]) rfl (by simp -implicitDefEqProofs (maxDischargeDepth := 6) (maxSteps := 1000000) only [go_sem, ↓reduceIte, Nat.reduceLT, Nat.reduceLeDiff, Nat.reduceEqDiff, Nat.reduceAdd, Nat.reduceMul, Nat.reduceSub, Nat.reduceBEq, reduceCtorEq, Int.reduceEq, Int.reduceLT, Int.reduceLE, Int.reduceNeg, Int.reduceToNat, hnb, hP, hR, hC, hb1, hb2, hb3, hb4, loads_eq, nv, hu0])) ?_
    rintro _ _ ⟨rfl, rfl⟩
    simp -implicitDefEqProofs (maxDischargeDepth := 6) (maxSteps := 1000000) only [go_sem, ↓reduceIte, Nat.reduceLT, Nat.reduceLeDiff, Nat.reduceEqDiff, Nat.reduceAdd, Nat.reduceMul, Nat.reduceSub, Nat.reduceBEq, reduceCtorEq, Int.reduceEq, Int.reduceLT, Int.reduceLE, Int.reduceNeg, Int.reduceToNat, hk, hnb, hP, hR, hC, hb1, hb2, hb3, hb4, loads_eq, nv, hu0]
    refine ⟨by simp [rightP, okP, restP, hk, hu0], ?_⟩
    repeat (first | exact hEG | refine Ext.set ?_ (by omega) (by (try simp only [next_set]); omega) _)
theorem right_8 {H : Heap} (hw : WF H) {a : Act} {len : Nat} (hl : len ≤ 65536) (hk : a.k = 8) : CW Try.prog 20 #[.agg a.cells.toArray, nv len] H fun x H' => x = .ret (.bool (rightP a len)) ∧ Ext H H' := by
  refine CW_k (n := 98) if20 rfl ?_
  unfold C20
  have hnb := hw.1
  simp -implicitDefEqProofs (maxDischargeDepth := 6) (maxSteps := 1000000) only [go_sem, ↓reduceIte, Nat.reduceLT, Nat.reduceLeDiff, Nat.reduceEqDiff, Nat.reduceAdd, Nat.reduceMul, Nat.reduceSub, Nat.reduceBEq, reduceCtorEq, Int.reduceEq, Int.reduceLT, Int.reduceLE, Int.reduceNeg, Int.reduceToNat, hnb, loads_eq, Act.cells]
  have hEG := (((((Ext.refl hw).alloc (⟨47, 0, false, [.int .i64 a.k, .int .i64 a.a, .int .i64 a.b, .int .i64 a.n]⟩ : Blk)).alloc (⟨47, 0, false, [.int .i64 0, .int .i64 0, .int .i64 0, .int .i64 0]⟩ : Blk)).set (b := H.next + 1) (by omega) (by simp only [next_alloc]; omega) (⟨47, 0, false, [.int .i64 0, .int .i64 a.a, .int .i64 a.b, .int .i64 a.n]⟩ : Blk)).alloc
    (⟨4, 0, false, [.bool false]⟩ : Blk)).set (b := H.next + 1 + 1) (by omega) (by simp only [next_alloc, next_set]; omega) (⟨4, 0, false, [.bool true]⟩ : Blk)
  generalize hG : (Heap.set (Heap.alloc _ _) _ _) = G at hEG ⊢
  have hP : G.get H.next = some ⟨47, 0, false, [.int .i64 a.k, .int .i64 a.a, .int .i64 a.b, .int .i64 a.n]⟩ := by rw [← hG]; simp -implicitDefEqProofs (maxDischargeDepth := 6) (maxSteps := 1000000) only [go_sem, ↓reduceIte, Nat.reduceLT, Nat.reduceLeDiff, Nat.reduceEqDiff, Nat.reduceAdd, Nat.reduceMul, Nat.reduceSub, Nat.reduceBEq, reduceCtorEq, Int.reduceEq, Int.reduceLT, Int.reduceLE, Int.reduceNeg, Int.reduceToNat, hnb]
  have hR : G.get (H.next + 1) = some ⟨47, 0, false, [.int .i64 0, .int .i64 a.a, .int .i64 a.b, .int .i64 a.n]⟩ := by rw [← hG]; simp -implicitDefEqProofs (maxDischargeDepth := 6) (maxSteps := 1000000) only [go_sem, ↓reduceIte, Nat.reduceLT, Nat.reduceLeDiff, Nat.reduceEqDiff, Nat.reduceAdd, Nat.reduceMul, Nat.reduceSub, Nat.reduceBEq, reduceCtorEq, Int.reduceEq, Int.reduceLT, Int.reduceLE, Int.reduceNeg, Int.reduceToNat, hnb]
  have hC : G.get (H.next + 1 + 1) = some ⟨4, 0, false, [.bool true]⟩ := by rw [← hG]; simp -implicitDefEqProofs (maxDischargeDepth := 6) (maxSteps := 1000000) only [go_sem, ↓reduceIte, Nat.reduceLT, Nat.reduceLeDiff, Nat.reduceEqDiff, Nat.reduceAdd, Nat.reduceMul, Nat.reduceSub, Nat.reduceBEq, reduceCtorEq, Int.reduceEq, Int.reduceLT, Int.reduceLE, Int.reduceNeg, Int.reduceToNat, hnb]
  have hnx : H.next + 1 + 1 < G.next := hEG.wf.lt hC
  clear hG
  have hb1 : base0 ≤ H.next + 1 := by omega
  have hb2 : base0 ≤ H.next + 1 + 1 := by omega
  have hb3 : H.next + 1 ≠ H.next + 1 + 1 := by omega
  have hb4 : H.next + 1 + 1 ≠ H.next + 1 := by omega
  skip <;> cases hu0 : btw a.a 8
  all_goals
    simp -implicitDefEqProofs (maxDischargeDepth := 6) (maxSteps := 1000000) only [go_sem, ↓reduceIte, Nat.reduceLT, Nat.reduceLeDiff, Nat.reduceEqDiff, Nat.reduceAdd, Nat.reduceMul, Nat.reduceSub, Nat.reduceBEq, reduceCtorEq, Int.reduceEq, Int.reduceLT, Int.reduceLE, Int.reduceNeg, Int.reduceToNat, hk, hnb, hP, hR, hC, hb1, hb2, hb3, hb4, loads_eq, nv, hu0]
    refine CW_mono _ (use_W (cs := [.int .i64 0, .int .i64 a.a, .int .i64 a.b, .int .i64 a.n]) (z := a.a) (ok := true) hb1 hb2 hb3 (by simp -implicitDefEqProofs (maxDischargeDepth := 6) (maxSteps := 1000000) only [go_sem, ↓reduceIte, Nat.reduceLT, Nat.reduceLeDiff, Nat.reduceEqDiff, Nat.reduceAdd, Nat.reduceMul, Nat.reduceSub, Nat.reduceBEq, reduceCtorEq, Int.reduceEq, Int.reduceLT, Int.reduceLE, Int.reduceNeg, Int.reduceToNat, hnb, hP, hR, hC, hb1, hb2, hb3, hb4, loads_eq, nv, hu0]) rfl (by simp -implicitDefEqProofs (maxDischargeDepth := 6) (maxSteps := 1000000) only [go_sem, ↓reduceIte, Nat.reduceLT, Nat.reduceLeDiff, Nat.reduceEqDiff, Nat.reduceAdd, Nat.reduceMul, Nat.reduceSub, Nat.reduceBEq, reduceCtorEq, Int.reduceEq, Int.reduceLT, Int.reduceLE, Int.reduceNeg, Int.reduceToNat, hnb, hP, hR, hC, hb1, hb2, hb3, hb4, loads_eq, nv, hu0])) ?_
    rintro _ _ ⟨rfl, rfl⟩
    simp -implicitDefEqProofs (maxDischargeDepth := 6) (maxSteps := 1000000) only [go_sem, ↓reduceIte, Nat.reduceLT, Nat.reduceLeDiff, Nat.reduceEqDiff, Nat.reduceAdd, Nat.reduceMul, Nat.reduceSub, Nat.reduceBEq, reduceCtorEq, Int.reduceEq, Int.reduceLT, Int.reduceLE, Int.reduceNeg, Int.reduceToNat, hk, hnb, hP, hR, hC, hb1, hb2, hb3, hb4, loads_eq, nv, hu0]
    refine ⟨by simp [rightP, okP, restP, hk, hu0], ?_⟩
    repeat (first | exact hEG | refine Ext.set ?_ (by omega) (by (try simp only [next_set]); omega) _)
theorem right_3 {H : Heap} (hw : WF H) {a : Act} {len : Nat} (hl : len ≤ 65536) (hk : a.k = 3) : CW Try.prog 20 #[.agg a.cells.toArray, nv len] H fun x H' => x = .ret (.bool (rightP a len)) ∧ Ext H H' := by
  refine CW_k (n := 98) if20 rfl ?_
  unfold C20
  have hnb := hw.1
  simp -implicitDefEqProofs (maxDischargeDepth := 6) (maxSteps := 1000000) only [go_sem, ↓reduceIte, Nat.reduceLT, Nat.reduceLeDiff, Nat.reduceEqDiff, Nat.reduceAdd, Nat.reduceMul, Nat.reduceSub, Nat.reduceBEq, reduceCtorEq, Int.reduceEq, Int.reduceLT, Int.reduceLE, Int.reduceNeg, Int.reduceToNat, hnb, loads_eq, Act.cells]
  have hEG := (((((Ext.refl hw).alloc (⟨47, 0, false, [.int .i64 a.k, .int .i64 a.a, .int .i64 a.b, .int .i64 a.n]⟩ : Blk)).alloc (⟨47, 0, false, [.int .i64 0, .int .i64 0, .int .i64 0, .int .i64 0]⟩ : Blk)).set (b := H.next + 1) (by omega) (by simp only [next_alloc]; omega) (⟨47, 0, false, [.int .i64 0, .int .i64 a.a, .int .i64 a.b, .int .i64 a.n]⟩ : Blk)).alloc
    (⟨4, 0, false, [.bool false]⟩ : Blk)).set (b := H.next + 1 + 1) (by omega) (by simp only [next_alloc, next_set]; omega) (⟨4, 0, false, [.bool true]⟩ : Blk)
  generalize hG : (Heap.set (Heap.alloc _ _) _ _) = G at hEG ⊢
  have hP : G.get H.next = some ⟨47, 0, false, [.int .i64 a.k, .int .i64 a.a, .int .i64 a.b, .int .i64 a.n]⟩ := by rw [← hG]; simp -implicitDefEqProofs (maxDischargeDepth := 6) (maxSteps := 1000000) only [go_sem, ↓reduceIte, Nat.reduceLT, Nat.reduceLeDiff, Nat.reduceEqDiff, Nat.reduceAdd, Nat.reduceMul, Nat.reduceSub, Nat.reduceBEq, reduceCtorEq, Int.reduceEq, Int.reduceLT, Int.reduceLE, Int.reduceNeg, Int.reduceToNat, hnb]
  have hR : G.get (H.next + 1) = some ⟨47, 0, false, [.int .i64 0, .int .i64 a.a, .int .i64 a.b, .int .i64 a.n]⟩ := by rw [← hG]; simp -implicitDefEqProofs (maxDischargeDepth := 6) (maxSteps := 1000000) only [go_sem, ↓reduceIte, Nat.reduceLT, Nat.reduceLeDiff, Nat.reduceEqDiff, Nat.reduceAdd, Nat.reduceMul, Nat.reduceSub, Nat.reduceBEq, reduceCtorEq, Int.reduceEq, Int.reduceLT, Int.reduceLE, Int.reduceNeg, Int.reduceToNat, hnb]
  have hC : G.get (H.next + 1 + 1) = some ⟨4, 0, false, [.bool true]⟩ := by rw [← hG]; simp -implicitDefEqProofs (maxDischargeDepth := 6) (maxSteps := 1000000) only [go_sem, ↓reduceIte, Nat.reduceLT, Nat.reduceLeDiff, Nat.reduceEqDiff, Nat.reduceAdd, Nat.reduceMul, Nat.reduceSub, Nat.reduceBEq, reduceCtorEq, Int.reduceEq, Int.reduceLT, Int.reduceLE, Int.reduceNeg, Int.reduceToNat, hnb]
  have hnx : H.next + 1 + 1 < G.next := hEG.wf.lt hC
  clear hG
  have hb1 : base0 ≤ H.next + 1 := by omega
  have hb2 : base0 ≤ H.next + 1 + 1 := by omega
  have hb3 : H.next + 1 ≠ H.next + 1 + 1 := by omega
  have hb4 : H.next + 1 + 1 ≠ H.next + 1 := by omega
  skip <;> cases hu0 : btw a.a 4 <;> cases hu1 : btw a.b 4
  all_goals
    simp -implicitDefEqProofs (maxDischargeDepth := 6) (maxSteps := 1000000) only [go_sem, ↓reduceIte, Nat.reduceLT, Nat.reduceLeDiff, Nat.reduceEqDiff, Nat.reduceAdd, Nat.reduceMul, Nat.reduceSub, Nat.reduceBEq, reduceCtorEq, Int.reduceEq, Int.reduceLT, Int.reduceLE, Int.reduceNeg, Int.reduceToNat, hk, hnb, hP, hR, hC, hb1, hb2, hb3, hb4, loads_eq, nv, hu0, hu1]
    refine CW_mono _ (use_W (cs := [.int .i64 0, .int .i64 a.a, .int .i64 a.b, .int .i64 a.n]) (z := a.a) (ok := true) hb1 hb2 hb3 (by simp -implicitDefEqProofs (maxDischargeDepth := 6) (maxSteps := 1000000) only [go_sem, ↓reduceIte, Nat.reduceLT, Nat.reduceLeDiff, Nat.reduceEqDiff, Nat.reduceAdd, Nat.reduceMul, Nat.reduceSub, Nat.reduceBEq, reduceCtorEq, Int.reduceEq, Int.reduceLT, Int.reduceLE, Int.reduceNeg, Int.reduceToNat, hnb, hP, hR, hC, hb1, hb2, hb3, hb4, loads_eq, nv, hu0, hu1]) rfl (by simp -implicitDefEqProofs (maxDischargeDepth := 6) (maxSteps := 1000000) only [go_sem, ↓reduceIte, Nat.reduceLT, Nat.reduceLeDiff, Nat.reduceEqDiff, Nat.reduceAdd, Nat.reduceMul, Nat.reduceSub, Nat.reduceBEq, reduceCtorEq, Int.reduceEq, Int.reduceLT, Int.reduceLE, Int.reduceNeg, Int.reduceToNat, hnb, hP, hR, hC, hb1, hb2, hb3, hb4, loads_eq, nv, hu0, hu1])) ?_
    rintro _ _ ⟨rfl, rfl⟩
    simp -implicitDefEqProofs (maxDischargeDepth := 6) (maxSteps := 1000000) only [go_sem, ↓reduceIte, Nat.reduceLT, Nat.reduceLeDiff, Nat.reduceEqDiff, Nat.reduceAdd, Nat.reduceMul, Nat.reduceSub, Nat.reduceBEq, reduceCtorEq, Int.reduceEq, Int.reduceLT, Int.reduceLE, Int.reduceNeg, Int.reduceToNat, hk, hnb, hP, hR, hC, hb1, hb2, hb3, hb4, loads_eq, nv, hu0, hu1]
    refine CW_mono _ (use_W (cs := [.int .i64 0, .int .i64 0, .int .i64 a.b, .int .i64 a.n]) (z := a.b) (ok := btw a.a 4) hb1 hb2 hb3 (by simp -implicitDefEqProofs (maxDischargeDepth := 6) (maxSteps := 1000000) only [go_sem, ↓reduceIte, Nat.reduceLT, Nat.reduceLeDiff, Nat.reduceEqDiff, Nat.reduceAdd, Nat.reduceMul, Nat.reduceSub, Nat.reduceBEq, reduceCtorEq, Int.reduceEq, Int.reduceLT, Int.reduceLE, Int.reduceNeg, Int.reduceToNat, hnb, hP, hR, hC, hb1, hb2, hb3, hb4, loads_eq, nv, hu0, hu1]) rfl (by simp -implicitDefEqProofs (maxDischargeDepth := 6) (maxSteps := 1000000) only [go_sem, ↓reduceIte, Nat.reduceLT, Nat.reduceLeDiff, Nat.reduceEqDiff, Nat.reduceAdd, Nat.reduceMul, Nat.reduceSub, Nat.reduceBEq, reduceCtorEq, Int.reduceEq, Int.reduceLT, Int.reduceLE, Int.reduceNeg, Int.reduceToNat, hnb, hP, hR, hC, hb1, hb2, hb3, hb4, loads_eq, nv, hu0, hu1])) ?_
    rintro _ _ ⟨rfl, rfl⟩
    simp -implicitDefEqProofs (maxDischargeDepth := 6) (maxSteps := 1000000) only [go_sem, ↓reduceIte, Nat.reduceLT, Nat.reduceLeDiff, Nat.reduceEqDiff, Nat.reduceAdd, Nat.reduceMul, Nat.reduceSub, Nat.reduceBEq, reduceCtorEq, Int.reduceEq, Int.reduceLT, Int.reduceLE, Int.reduceNeg, Int.reduceToNat, hk, hnb, hP, hR, hC, hb1, hb2, hb3, hb4, loads_eq, nv, hu0, hu1]
    refine ⟨by simp [rightP, okP, restP, hk, hu0, hu1], ?_⟩
    repeat (first | exact hEG | refine Ext.set ?_ (by omega) (by (try simp only [next_set]); omega) _)
theorem right_7 {H : Heap} (hw : WF H) {a : Act} {len : Nat} (hl : len ≤ 65536) (hk : a.k = 7) : CW Try.prog 20 #[.agg a.cells.toArray, nv len] H fun x H' => x = .ret (.bool (rightP a len)) ∧ Ext H H' := by
  refine CW_k (n := 98) if20 rfl ?_
  unfold C20
  have hnb := hw.1
  simp -implicitDefEqProofs (maxDischargeDepth := 6) (maxSteps := 1000000) only [go_sem, ↓reduceIte, Nat.reduceLT, Nat.reduceLeDiff, Nat.reduceEqDiff, Nat.reduceAdd, Nat.reduceMul, Nat.reduceSub, Nat.reduceBEq, reduceCtorEq, Int.reduceEq, Int.reduceLT, Int.reduceLE, Int.reduceNeg, Int.reduceToNat, hnb, loads_eq, Act.cells]
  have hEG := (((((Ext.refl hw).alloc (⟨47, 0, false, [.int .i64 a.k, .int .i64 a.a, .int .i64 a.b, .int .i64 a.n]⟩ : Blk)).alloc (⟨47, 0, false, [.int .i64 0, .int .i64 0, .int .i64 0, .int .i64 0]⟩ : Blk)).set (b := H.next + 1) (by omega) (by simp only [next_alloc]; omega) (⟨47, 0, false, [.int .i64 0, .int .i64 a.a, .int .i64 a.b, .int .i64 a.n]⟩ : Blk)).alloc
    (⟨4, 0, false, [.bool false]⟩ : Blk)).set (b := H.next + 1 + 1) (by omega) (by simp only [next_alloc, next_set]; omega) (⟨4, 0, false, [.bool true]⟩ : Blk)
  generalize hG : (Heap.set (Heap.alloc _ _) _ _) = G at hEG ⊢
  have hP : G.get H.next = some ⟨47, 0, false, [.int .i64 a.k, .int .i64 a.a, .int .i64 a.b, .int .i64 a.n]⟩ := by rw [← hG]; simp -implicitDefEqProofs (maxDischargeDepth := 6) (maxSteps := 1000000) only [go_sem, ↓reduceIte, Nat.reduceLT, Nat.reduceLeDiff, Nat.reduceEqDiff, Nat.reduceAdd, Nat.reduceMul, Nat.reduceSub, Nat.reduceBEq, reduceCtorEq, Int.reduceEq, Int.reduceLT, Int.reduceLE, Int.reduceNeg, Int.reduceToNat, hnb]
  have hR : G.get (H.next + 1) = some ⟨47, 0, false, [.int .i64 0, .int .i64 a.a, .int .i64 a.b, .int .i64 a.n]⟩ := by rw [← hG]; simp -implicitDefEqProofs (maxDischargeDepth := 6) (maxSteps := 1000000) only [go_sem, ↓reduceIte, Nat.reduceLT, Nat.reduceLeDiff, Nat.reduceEqDiff, Nat.reduceAdd, Nat.reduceMul, Nat.reduceSub, Nat.reduceBEq, reduceCtorEq, Int.reduceEq, Int.reduceLT, Int.reduceLE, Int.reduceNeg, Int.reduceToNat, hnb]
  have hC : G.get (H.next + 1 + 1) = some ⟨4, 0, false, [.bool true]⟩ := by rw [← hG]; simp -implicitDefEqProofs (maxDischargeDepth := 6) (maxSteps := 1000000) only [go_sem, ↓reduceIte, Nat.reduceLT, Nat.reduceLeDiff, Nat.reduceEqDiff, Nat.reduceAdd, Nat.reduceMul, Nat.reduceSub, Nat.reduceBEq, reduceCtorEq, Int.reduceEq, Int.reduceLT, Int.reduceLE, Int.reduceNeg, Int.reduceToNat, hnb]
  have hnx : H.next + 1 + 1 < G.next := hEG.wf.lt hC
  clear hG
  have hb1 : base0 ≤ H.next + 1 := by omega
  have hb2 : base0 ≤ H.next + 1 + 1 := by omega
  have hb3 : H.next + 1 ≠ H.next + 1 + 1 := by omega
  have hb4 : H.next + 1 + 1 ≠ H.next + 1 := by omega
  skip <;> cases hu0 : btw a.a 4 <;> cases hu1 : btw a.b 8
  all_goals
    simp -implicitDefEqProofs (maxDischargeDepth := 6) (maxSteps := 1000000) only [go_sem, ↓reduceIte, Nat.reduceLT, Nat.reduceLeDiff, Nat.reduceEqDiff, Nat.reduceAdd, Nat.reduceMul, Nat.reduceSub, Nat.reduceBEq, reduceCtorEq, Int.reduceEq, Int.reduceLT, Int.reduceLE, Int.reduceNeg, Int.reduceToNat, hk, hnb, hP, hR, hC, hb1, hb2, hb3, hb4, loads_eq, nv, hu0, hu1]
    refine CW_mono _ (use_W (cs := [.int .i64 0, .int .i64 a.a, .int .i64 a.b, .int .i64 a.n]) (z := a.a) (ok := true) hb1 hb2 hb3 (by simp -implicitDefEqProofs (maxDischargeDepth := 6) (maxSteps := 1000000) only [go_sem, ↓reduceIte, Nat.reduceLT, Nat.reduceLeDiff, Nat.reduceEqDiff, Nat.reduceAdd, Nat.reduceMul, Nat.reduceSub, Nat.reduceBEq, reduceCtorEq, Int.reduceEq, Int.reduceLT, Int.reduceLE, Int.reduceNeg, Int.reduceToNat, hnb, hP, hR, hC, hb1, hb2, hb3, hb4, loads_eq, nv, hu0, hu1]) rfl (by simp -implicitDefEqProofs (maxDischargeDepth := 6) (maxSteps := 1000000) only [go_sem, ↓reduceIte, Nat.reduceLT, Nat.reduceLeDiff, Nat.reduceEqDiff, Nat.reduceAdd, Nat.reduceMul, Nat.reduceSub, Nat.reduceBEq, reduceCtorEq, Int.reduceEq, Int.reduceLT, Int.reduceLE, Int.reduceNeg, Int.reduceToNat, hnb, hP, hR, hC, hb1, hb2, hb3, hb4, loads_eq, nv, hu0, hu1])) ?_
    rintro _ _ ⟨rfl, rfl⟩
    simp -implicitDefEqProofs (maxDischargeDepth := 6) (maxSteps := 1000000) only [go_sem, ↓reduceIte, Nat.reduceLT, Nat.reduceLeDiff, Nat.reduceEqDiff, Nat.reduceAdd, Nat.reduceMul, Nat.reduceSub, Nat.reduceBEq, reduceCtorEq, Int.reduceEq, Int.reduceLT, Int.reduceLE, Int.reduceNeg, Int.reduceToNat, hk, hnb, hP, hR, hC, hb1, hb2, hb3, hb4, loads_eq, nv, hu0, hu1]
    refine CW_mono _ (use_W (cs := [.int .i64 0, .int .i64 0, .int .i64 a.b, .int .i64 a.n]) (z := a.b) (ok := btw a.a 4) hb1 hb2 hb3 (by simp -implicitDefEqProofs (maxDischargeDepth := 6) (maxSteps := 1000000) only [go_sem, ↓reduceIte, Nat.reduceLT, Nat.reduceLeDiff, Nat.reduceEqDiff, Nat.reduceAdd, Nat.reduceMul, Nat.reduceSub, Nat.reduceBEq, reduceCtorEq, Int.reduceEq, Int.reduceLT, Int.reduceLE, Int.reduceNeg, Int.reduceToNat, hnb, hP, hR, hC, hb1, hb2, hb3, hb4, loads_eq, nv, hu0, hu1]) rfl (by simp -implicitDefEqProofs (maxDischargeDepth := 6) (maxSteps := 1000000) only [go_sem, ↓reduceIte, Nat.reduceLT, Nat.reduceLeDiff, Nat.reduceEqDiff, Nat.reduceAdd, Nat.reduceMul, Nat.reduceSub, Nat.reduceBEq, reduceCtorEq, Int.reduceEq, Int.reduceLT, Int.reduceLE, Int.reduceNeg, Int.reduceToNat, hnb, hP, hR, hC, hb1, hb2, hb3, hb4, loads_eq, nv, hu0, hu1])) ?_
    rintro _ _ ⟨rfl, rfl⟩
    simp -implicitDefEqProofs (maxDischargeDepth := 6) (maxSteps := 1000000) only [go_sem, ↓reduceIte, Nat.reduceLT, Nat.reduceLeDiff, Nat.reduceEqDiff, Nat.reduceAdd, Nat.reduceMul, Nat.reduceSub, Nat.reduceBEq, reduceCtorEq, Int.reduceEq, Int.reduceLT, Int.reduceLE, Int.reduceNeg, Int.reduceToNat, hk, hnb, hP, hR, hC, hb1, hb2, hb3, hb4, loads_eq, nv, hu0, hu1]
    refine ⟨by simp [rightP, okP, restP, hk, hu0, hu1], ?_⟩
    repeat (first | exact hEG | refine Ext.set ?_ (by omega) (by (try simp only [next_set]); omega) _)
theorem right_9 {H : Heap} (hw : WF H) {a : Act} {len : Nat} (hl : len ≤ 65536) (hk : a.k = 9) : CW Try.prog 20 #[.agg a.cells.toArray, nv len] H fun x H' => x = .ret (.bool (rightP a len)) ∧ Ext H H' := by
  refine CW_k (n := 98) if20 rfl ?_
  unfold C20
  have hnb := hw.1
  simp -implicitDefEqProofs (maxDischargeDepth := 6) (maxSteps := 1000000) only [go_sem, ↓reduceIte, Nat.reduceLT, Nat.reduceLeDiff, Nat.reduceEqDiff, Nat.reduceAdd, Nat.reduceMul, Nat.reduceSub, Nat.reduceBEq, reduceCtorEq, Int.reduceEq, Int.reduceLT, Int.reduceLE, Int.reduceNeg, Int.reduceToNat, hnb, loads_eq, Act.cells]
  have hEG := (((((Ext.refl hw).alloc (⟨47, 0, false, [.int .i64 a.k, .int .i64 a.a, .int .i64 a.b, .int .i64 a.n]⟩ : Blk)).alloc (⟨47, 0, false, [.int .i64 0, .int .i64 0, .int .i64 0, .int .i64 0]⟩ : Blk)).set (b := H.next + 1) (by omega) (by simp only [next_alloc]; omega) (⟨47, 0, false, [.int .i64 0, .int .i64 a.a, .int .i64 a.b, .int .i64 a.n]⟩ : Blk)).alloc
    (⟨4, 0, false, [.bool false]⟩ : Blk)).set (b := H.next + 1 + 1) (by omega) (by simp only [next_alloc, next_set]; omega) (⟨4, 0, false, [.bool true]⟩ : Blk)
  generalize hG : (Heap.set (Heap.alloc _ _) _ _) = G at hEG ⊢
  have hP : G.get H.next = some ⟨47, 0, false, [.int .i64 a.k, .int .i64 a.a, .int .i64 a.b, .int .i64 a.n]⟩ := by rw [← hG]; simp -implicitDefEqProofs (maxDischargeDepth := 6) (maxSteps := 1000000) only [go_sem, ↓reduceIte, Nat.reduceLT, Nat.reduceLeDiff, Nat.reduceEqDiff, Nat.reduceAdd, Nat.reduceMul, Nat.reduceSub, Nat.reduceBEq, reduceCtorEq, Int.reduceEq, Int.reduceLT, Int.reduceLE, Int.reduceNeg, Int.reduceToNat, hnb]
  have hR : G.get (H.next + 1) = some ⟨47, 0, false, [.int .i64 0, .int .i64 a.a, .int .i64 a.b, .int .i64 a.n]⟩ := by rw [← hG]; simp -implicitDefEqProofs (maxDischargeDepth := 6) (maxSteps := 1000000) only [go_sem, ↓reduceIte, Nat.reduceLT, Nat.reduceLeDiff, Nat.reduceEqDiff, Nat.reduceAdd, Nat.reduceMul, Nat.reduceSub, Nat.reduceBEq, reduceCtorEq, Int.reduceEq, Int.reduceLT, Int.reduceLE, Int.reduceNeg, Int.reduceToNat, hnb]
  have hC : G.get (H.next + 1 + 1) = some ⟨4, 0, false, [.bool true]⟩ := by rw [← hG]; simp -implicitDefEqProofs (maxDischargeDepth := 6) (maxSteps := 1000000) only [go_sem, ↓reduceIte, Nat.reduceLT, Nat.reduceLeDiff, Nat.reduceEqDiff, Nat.reduceAdd, Nat.reduceMul, Nat.reduceSub, Nat.reduceBEq, reduceCtorEq, Int.reduceEq, Int.reduceLT, Int.reduceLE, Int.reduceNeg, Int.reduceToNat, hnb]
  have hnx : H.next + 1 + 1 < G.next := hEG.wf.lt hC
  clear hG
  have hb1 : base0 ≤ H.next + 1 := by omega
  have hb2 : base0 ≤ H.next + 1 + 1 := by omega
  have hb3 : H.next + 1 ≠ H.next + 1 + 1 := by omega
  have hb4 : H.next + 1 + 1 ≠ H.next + 1 := by omega
  skip <;> cases hu0 : btw a.a 8 <;> cases hu1 : btw a.b 8
  all_goals
    simp -implicitDefEqProofs (maxDischargeDepth := 6) (maxSteps := 1000000) only [go_sem, ↓reduceIte, Nat.reduceLT, Nat.reduceLeDiff, Nat.reduceEqDiff, Nat.reduceAdd, Nat.reduceMul, Nat.reduceSub, Nat.reduceBEq, reduceCtorEq, Int.reduceEq, Int.reduceLT, Int.reduceLE, Int.reduceNeg, Int.reduceToNat, hk, hnb, hP, hR, hC, hb1, hb2, hb3, hb4, loads_eq, nv, hu0, hu1]
    refine CW_mono _ (use_W (cs := [.int .i64 0, .int .i64 a.a, .int .i64 a.b, .int .i64 a.n]) (z := a.a) (ok := true) hb1 hb2 hb3 (by simp -implicitDefEqProofs (maxDischargeDepth := 6) (maxSteps := 1000000) only [go_sem, ↓reduceIte, Nat.reduceLT, Nat.reduceLeDiff, Nat.reduceEqDiff, Nat.reduceAdd, Nat.reduceMul, Nat.reduceSub, Nat.reduceBEq, reduceCtorEq, Int.reduceEq, Int.reduceLT, Int.reduceLE, Int.reduceNeg, Int.reduceToNat, hnb, hP, hR, hC, hb1, hb2, hb3, hb4, loads_eq, nv, hu0, hu1]) rfl (by simp -implicitDefEqProofs (maxDischargeDepth := 6) (maxSteps := 1000000) only [go_sem, ↓reduceIte, Nat.reduceLT, Nat.reduceLeDiff, Nat.reduceEqDiff, Nat.reduceAdd, Nat.reduceMul, Nat.reduceSub, Nat.reduceBEq, reduceCtorEq, Int.reduceEq, Int.reduceLT, Int.reduceLE, Int.reduceNeg, Int.reduceToNat, hnb, hP, hR, hC, hb1, hb2, hb3, hb4, loads_eq, nv, hu0, hu1])) ?_
    rintro _ _ ⟨rfl, rfl⟩
    simp -implicitDefEqProofs (maxDischargeDepth := 6) (maxSteps := 1000000) only [go_sem, ↓reduceIte, Nat.reduceLT, Nat.reduceLeDiff, Nat.reduceEqDiff, Nat.reduceAdd, Nat.reduceMul, Nat.reduceSub, Nat.reduceBEq, reduceCtorEq, Int.reduceEq, Int.reduceLT, Int.reduceLE, Int.reduceNeg, Int.reduceToNat, hk, hnb, hP, hR, hC, hb1, hb2, hb3, hb4, loads_eq, nv, hu0, hu1]
    refine CW_mono _ (use_W (cs := [.int .i64 0, .int .i64 0, .int .i64 a.b, .int .i64 a.n]) (z := a.b) (ok := btw a.a 8) hb1 hb2 hb3 (by simp -implicitDefEqProofs (maxDischargeDepth := 6) (maxSteps := 1000000) only [go_sem, ↓reduceIte, Nat.reduceLT, Nat.reduceLeDiff, Nat.reduceEqDiff, Nat.reduceAdd, Nat.reduceMul, Nat.reduceSub, Nat.reduceBEq, reduceCtorEq, Int.reduceEq, Int.reduceLT, Int.reduceLE, Int.reduceNeg, Int.reduceToNat, hnb, hP, hR, hC, hb1, hb2, hb3, hb4, loads_eq, nv, hu0, hu1]) rfl (by simp -implicitDefEqProofs (maxDischargeDepth := 6) (maxSteps := 1000000) only [go_sem, ↓reduceIte, Nat.reduceLT, Nat.reduceLeDiff, Nat.reduceEqDiff, Nat.reduceAdd, Nat.reduceMul, Nat.reduceSub, Nat.reduceBEq, reduceCtorEq, Int.reduceEq, Int.reduceLT, Int.reduceLE, Int.reduceNeg, Int.reduceToNat, hnb, hP, hR, hC, hb1, hb2, hb3, hb4, loads_eq, nv, hu0, hu1])) ?_
    rintro _ _ ⟨rfl, rfl⟩
    simp -implicitDefEqProofs (maxDischargeDepth := 6) (maxSteps := 1000000) only [go_sem, ↓reduceIte, Nat.reduceLT, Nat.reduceLeDiff, Nat.reduceEqDiff, Nat.reduceAdd, Nat.reduceMul, Nat.reduceSub, Nat.reduceBEq, reduceCtorEq, Int.reduceEq, Int.reduceLT, Int.reduceLE, Int.reduceNeg, Int.reduceToNat, hk, hnb, hP, hR, hC, hb1, hb2, hb3, hb4, loads_eq, nv, hu0, hu1]
    refine ⟨by simp [rightP, okP, restP, hk, hu0, hu1], ?_⟩
    repeat (first | exact hEG | refine Ext.set ?_ (by omega) (by (try simp only [next_set]); omega) _)
theorem right_10 {H : Heap} (hw : WF H) {a : Act} {len : Nat} (hl : len ≤ 65536) (hk : a.k = 10) : CW Try.prog 20 #[.agg a.cells.toArray, nv len] H fun x H' => x = .ret (.bool (rightP a len)) ∧ Ext H H' := by
  refine CW_k (n := 98) if20 rfl ?_
  unfold C20
  have hnb := hw.1
  simp -implicitDefEqProofs (maxDischargeDepth := 6) (maxSteps := 1000000) only [go_sem, ↓reduceIte, Nat.reduceLT, Nat.reduceLeDiff, Nat.reduceEqDiff, Nat.reduceAdd, Nat.reduceMul, Nat.reduceSub, Nat.reduceBEq, reduceCtorEq, Int.reduceEq, Int.reduceLT, Int.reduceLE, Int.reduceNeg, Int.reduceToNat, hnb, loads_eq, Act.cells]
  have hEG := (((((Ext.refl hw).alloc (⟨47, 0, false, [.int .i64 a.k, .int .i64 a.a, .int .i64 a.b, .int .i64 a.n]⟩ : Blk)).alloc (⟨47, 0, false, [.int .i64 0, .int .i64 0, .int .i64 0, .int .i64 0]⟩ : Blk)).set (b := H.next + 1) (by omega) (by simp only [next_alloc]; omega) (⟨47, 0, false, [.int .i64 0, .int .i64 a.a, .int .i64 a.b, .int .i64 a.n]⟩ : Blk)).alloc
    (⟨4, 0, false, [.bool false]⟩ : Blk)).set (b := H.next + 1 + 1) (by omega) (by simp only [next_alloc, next_set]; omega) (⟨4, 0, false, [.bool true]⟩ : Blk)
  generalize hG : (Heap.set (Heap.alloc _ _) _ _) = G at hEG ⊢
  have hP : G.get H.next = some ⟨47, 0, false, [.int .i64 a.k, .int .i64 a.a, .int .i64 a.b, .int .i64 a.n]⟩ := by rw [← hG]; simp -implicitDefEqProofs (maxDischargeDepth := 6) (maxSteps := 1000000) only [go_sem, ↓reduceIte, Nat.reduceLT, Nat.reduceLeDiff, Nat.reduceEqDiff, Nat.reduceAdd, Nat.reduceMul, Nat.reduceSub, Nat.reduceBEq, reduceCtorEq, Int.reduceEq, Int.reduceLT, Int.reduceLE, Int.reduceNeg, Int.reduceToNat, hnb]
  have hR : G.get (H.next + 1) = some ⟨47, 0, false, [.int .i64 0, .int .i64 a.a, .int .i64 a.b, .int .i64 a.n]⟩ := by rw [← hG]; simp -implicitDefEqProofs (maxDischargeDepth := 6) (maxSteps := 1000000) only [go_sem, ↓reduceIte, Nat.reduceLT, Nat.reduceLeDiff, Nat.reduceEqDiff, Nat.reduceAdd, Nat.reduceMul, Nat.reduceSub, Nat.reduceBEq, reduceCtorEq, Int.reduceEq, Int.reduceLT, Int.reduceLE, Int.reduceNeg, Int.reduceToNat, hnb]
  have hC : G.get (H.next + 1 + 1) = some ⟨4, 0, false, [.bool true]⟩ := by rw [← hG]; simp -implicitDefEqProofs (maxDischargeDepth := 6) (maxSteps := 1000000) only [go_sem, ↓reduceIte, Nat.reduceLT, Nat.reduceLeDiff, Nat.reduceEqDiff, Nat.reduceAdd, Nat.reduceMul, Nat.reduceSub, Nat.reduceBEq, reduceCtorEq, Int.reduceEq, Int.reduceLT, Int.reduceLE, Int.reduceNeg, Int.reduceToNat, hnb]
  have hnx : H.next + 1 + 1 < G.next := hEG.wf.lt hC
  clear hG
  have hb1 : base0 ≤ H.next + 1 := by omega
  have hb2 : base0 ≤ H.next + 1 + 1 := by omega
  have hb3 : H.next + 1 ≠ H.next + 1 + 1 := by omega
  have hb4 : H.next + 1 + 1 ≠ H.next + 1 := by omega
  skip <;> cases hu0 : btw a.a 8 <;> by_cases hn0 : 0 ≤ a.n <;> by_cases hn1 : a.n ≤ 255
  all_goals
    simp -implicitDefEqProofs (maxDischargeDepth := 6) (maxSteps := 1000000) only [go_sem, ↓reduceIte, Nat.reduceLT, Nat.reduceLeDiff, Nat.reduceEqDiff, Nat.reduceAdd, Nat.reduceMul, Nat.reduceSub, Nat.reduceBEq, reduceCtorEq, Int.reduceEq, Int.reduceLT, Int.reduceLE, Int.reduceNeg, Int.reduceToNat, hk, hnb, hP, hR, hC, hb1, hb2, hb3, hb4, loads_eq, nv, hu0, hn0, hn1]
    refine CW_mono _ (use_W (cs := [.int .i64 0, .int .i64 a.a, .int .i64 a.b, .int .i64 a.n]) (z := a.a) (ok := true) hb1 hb2 hb3 (by simp -implicitDefEqProofs (maxDischargeDepth := 6) (maxSteps := 1000000) only [go_sem, ↓reduceIte, Nat.reduceLT, Nat.reduceLeDiff, Nat.reduceEqDiff, Nat.reduceAdd, Nat.reduceMul, Nat.reduceSub, Nat.reduceBEq, reduceCtorEq, Int.reduceEq, Int.reduceLT, Int.reduceLE, Int.reduceNeg, Int.reduceToNat, hnb, hP, hR, hC, hb1, hb2, hb3, hb4, loads_eq, nv, hu0]) rfl (by simp -implicitDefEqProofs (maxDischargeDepth := 6) (maxSteps := 1000000) only [go_sem, ↓reduceIte, Nat.reduceLT, Nat.reduceLeDiff, Nat.reduceEqDiff, Nat.reduceAdd, Nat.reduceMul, Nat.reduceSub, Nat.reduceBEq, reduceCtorEq, Int.reduceEq, Int.reduceLT, Int.reduceLE, Int.reduceNeg, Int.reduceToNat, hnb, hP, hR, hC, hb1, hb2, hb3, hb4, loads_eq, nv, hu0])) ?_
    rintro _ _ ⟨rfl, rfl⟩
    simp -implicitDefEqProofs (maxDischargeDepth := 6) (maxSteps := 1000000) only [go_sem, ↓reduceIte, Nat.reduceLT, Nat.reduceLeDiff, Nat.reduceEqDiff, Nat.reduceAdd, Nat.reduceMul, Nat.reduceSub, Nat.reduceBEq, reduceCtorEq, Int.reduceEq, Int.reduceLT, Int.reduceLE, Int.reduceNeg, Int.reduceToNat, hk, hnb, hP, hR, hC, hb1, hb2, hb3, hb4, loads_eq, nv, hu0, hn0, hn1]
    refine ⟨by simp [rightP, okP, restP, hk, hu0, hn0, hn1], ?_⟩
    repeat (first | exact hEG | refine Ext.set ?_ (by omega) (by (try simp only [next_set]); omega) _)
theorem right_11 {H : Heap} (hw : WF H) {a : Act} {len : Nat} (hl : len ≤ 65536) (hk : a.k = 11) : CW Try.prog 20 #[.agg a.cells.toArray, nv len] H fun x H' => x = .ret (.bool (rightP a len)) ∧ Ext H H' := by
  refine CW_k (n := 98) if20 rfl ?_
  unfold C20
  have hnb := hw.1
  simp -implicitDefEqProofs (maxDischargeDepth := 6) (maxSteps := 1000000) only [go_sem, ↓reduceIte, Nat.reduceLT, Nat.reduceLeDiff, Nat.reduceEqDiff, Nat.reduceAdd, Nat.reduceMul, Nat.reduceSub, Nat.reduceBEq, reduceCtorEq, Int.reduceEq, Int.reduceLT, Int.reduceLE, Int.reduceNeg, Int.reduceToNat, hnb, loads_eq, Act.cells]
  have hEG := (((((Ext.refl hw).alloc (⟨47, 0, false, [.int .i64 a.k, .int .i64 a.a, .int .i64 a.b, .int .i64 a.n]⟩ : Blk)).alloc (⟨47, 0, false, [.int .i64 0, .int .i64 0, .int .i64 0, .int .i64 0]⟩ : Blk)).set (b := H.next + 1) (by omega) (by simp only [next_alloc]; omega) (⟨47, 0, false, [.int .i64 0, .int .i64 a.a, .int .i64 a.b, .int .i64 a.n]⟩ : Blk)).alloc
    (⟨4, 0, false, [.bool false]⟩ : Blk)).set (b := H.next + 1 + 1) (by omega) (by simp only [next_alloc, next_set]; omega) (⟨4, 0, false, [.bool true]⟩ : Blk)
  generalize hG : (Heap.set (Heap.alloc _ _) _ _) = G at hEG ⊢
  have hP : G.get H.next = some ⟨47, 0, false, [.int .i64 a.k, .int .i64 a.a, .int .i64 a.b, .int .i64 a.n]⟩ := by rw [← hG]; simp -implicitDefEqProofs (maxDischargeDepth := 6) (maxSteps := 1000000) only [go_sem, ↓reduceIte, Nat.reduceLT, Nat.reduceLeDiff, Nat.reduceEqDiff, Nat.reduceAdd, Nat.reduceMul, Nat.reduceSub, Nat.reduceBEq, reduceCtorEq, Int.reduceEq, Int.reduceLT, Int.reduceLE, Int.reduceNeg, Int.reduceToNat, hnb]
  have hR : G.get (H.next + 1) = some ⟨47, 0, false, [.int .i64 0, .int .i64 a.a, .int .i64 a.b, .int .i64 a.n]⟩ := by rw [← hG]; simp -implicitDefEqProofs (maxDischargeDepth := 6) (maxSteps := 1000000) only [go_sem, ↓reduceIte, Nat.reduceLT, Nat.reduceLeDiff, Nat.reduceEqDiff, Nat.reduceAdd, Nat.reduceMul, Nat.reduceSub, Nat.reduceBEq, reduceCtorEq, Int.reduceEq, Int.reduceLT, Int.reduceLE, Int.reduceNeg, Int.reduceToNat, hnb]
  have hC : G.get (H.next + 1 + 1) = some ⟨4, 0, false, [.bool true]⟩ := by rw [← hG]; simp -implicitDefEqProofs (maxDischargeDepth := 6) (maxSteps := 1000000) only [go_sem, ↓reduceIte, Nat.reduceLT, Nat.reduceLeDiff, Nat.reduceEqDiff, Nat.reduceAdd, Nat.reduceMul, Nat.reduceSub, Nat.reduceBEq, reduceCtorEq, Int.reduceEq, Int.reduceLT, Int.reduceLE, Int.reduceNeg, Int.reduceToNat, hnb]
  have hnx : H.next + 1 + 1 < G.next := hEG.wf.lt hC
  clear hG
  have hb1 : base0 ≤ H.next + 1 := by omega
  have hb2 : base0 ≤ H.next + 1 + 1 := by omega
  have hb3 : H.next + 1 ≠ H.next + 1 + 1 := by omega
  have hb4 : H.next + 1 + 1 ≠ H.next + 1 := by omega
  skip
  all_goals
    simp -implicitDefEqProofs (maxDischargeDepth := 6) (maxSteps := 1000000) only [go_sem, ↓reduceIte, Nat.reduceLT, Nat.reduceLeDiff, Nat.reduceEqDiff, Nat.reduceAdd, Nat.reduceMul, Nat.reduceSub, Nat.reduceBEq, reduceCtorEq, Int.reduceEq, Int.reduceLT, Int.reduceLE, Int.reduceNeg, Int.reduceToNat, hk, hnb, hP, hR, hC, hb1, hb2, hb3, hb4, loads_eq, nv]
    refine ⟨by simp [rightP, okP, restP, hk], ?_⟩
    repeat (first | exact hEG | refine Ext.set ?_ (by omega) (by (try simp only [next_set]); omega) _)
theorem right_12 {H : Heap} (hw : WF H) {a : Act} {len : Nat} (hl : len ≤ 65536) (hk : a.k = 12) : CW Try.prog 20 #[.agg a.cells.toArray, nv len] H fun x H' => x = .ret (.bool (rightP a len)) ∧ Ext H H' := by
  refine CW_k (n := 98) if20 rfl ?_
  unfold C20
  have hnb := hw.1
  simp -implicitDefEqProofs (maxDischargeDepth := 6) (maxSteps := 1000000) only [go_sem, ↓reduceIte, Nat.reduceLT, Nat.reduceLeDiff, Nat.reduceEqDiff, Nat.reduceAdd, Nat.reduceMul, Nat.reduceSub, Nat.reduceBEq, reduceCtorEq, Int.reduceEq, Int.reduceLT, Int.reduceLE, Int.reduceNeg, Int.reduceToNat, hnb, loads_eq, Act.cells]
  have hEG := (((((Ext.refl hw).alloc (⟨47, 0, false, [.int .i64 a.k, .int .i64 a.a, .int .i64 a.b, .int .i64 a.n]⟩ : Blk)).alloc (⟨47, 0, false, [.int .i64 0, .int .i64 0, .int .i64 0, .int .i64 0]⟩ : Blk)).set (b := H.next + 1) (by omega) (by simp only [next_alloc]; omega) (⟨47, 0, false, [.int .i64 0, .int .i64 a.a, .int .i64 a.b, .int .i64 a.n]⟩ : Blk)).alloc
    (⟨4, 0, false, [.bool false]⟩ : Blk)).set (b := H.next + 1 + 1) (by omega) (by simp only [next_alloc, next_set]; omega) (⟨4, 0, false, [.bool true]⟩ : Blk)
  generalize hG : (Heap.set (Heap.alloc _ _) _ _) = G at hEG ⊢
  have hP : G.get H.next = some ⟨47, 0, false, [.int .i64 a.k, .int .i64 a.a, .int .i64 a.b, .int .i64 a.n]⟩ := by rw [← hG]; simp -implicitDefEqProofs (maxDischargeDepth := 6) (maxSteps := 1000000) only [go_sem, ↓reduceIte, Nat.reduceLT, Nat.reduceLeDiff, Nat.reduceEqDiff, Nat.reduceAdd, Nat.reduceMul, Nat.reduceSub, Nat.reduceBEq, reduceCtorEq, Int.reduceEq, Int.reduceLT, Int.reduceLE, Int.reduceNeg, Int.reduceToNat, hnb]
  have hR : G.get (H.next + 1) = some ⟨47, 0, false, [.int .i64 0, .int .i64 a.a, .int .i64 a.b, .int .i64 a.n]⟩ := by rw [← hG]; simp -implicitDefEqProofs (maxDischargeDepth := 6) (maxSteps := 1000000) only [go_sem, ↓reduceIte, Nat.reduceLT, Nat.reduceLeDiff, Nat.reduceEqDiff, Nat.reduceAdd, Nat.reduceMul, Nat.reduceSub, Nat.reduceBEq, reduceCtorEq, Int.reduceEq, Int.reduceLT, Int.reduceLE, Int.reduceNeg, Int.reduceToNat, hnb]
  have hC : G.get (H.next + 1 + 1) = some ⟨4, 0, false, [.bool true]⟩ := by rw [← hG]; simp -implicitDefEqProofs (maxDischargeDepth := 6) (maxSteps := 1000000) only [go_sem, ↓reduceIte, Nat.reduceLT, Nat.reduceLeDiff, Nat.reduceEqDiff, Nat.reduceAdd, Nat.reduceMul, Nat.reduceSub, Nat.reduceBEq, reduceCtorEq, Int.reduceEq, Int.reduceLT, Int.reduceLE, Int.reduceNeg, Int.reduceToNat, hnb]
  have hnx : H.next + 1 + 1 < G.next := hEG.wf.lt hC
  clear hG
  have hb1 : base0 ≤ H.next + 1 := by omega
  have hb2 : base0 ≤ H.next + 1 + 1 := by omega
  have hb3 : H.next + 1 ≠ H.next + 1 + 1 := by omega
  have hb4 : H.next + 1 + 1 ≠ H.next + 1 := by omega
  skip
  all_goals
    simp -implicitDefEqProofs (maxDischargeDepth := 6) (maxSteps := 1000000) only [go_sem, ↓reduceIte, Nat.reduceLT, Nat.reduceLeDiff, Nat.reduceEqDiff, Nat.reduceAdd, Nat.reduceMul, Nat.reduceSub, Nat.reduceBEq, reduceCtorEq, Int.reduceEq, Int.reduceLT, Int.reduceLE, Int.reduceNeg, Int.reduceToNat, hk, hnb, hP, hR, hC, hb1, hb2, hb3, hb4, loads_eq, nv]
    refine ⟨by simp [rightP, okP, restP, hk], ?_⟩
    repeat (first | exact hEG | refine Ext.set ?_ (by omega) (by (try simp only [next_set]); omega) _)
theorem right_13 {H : Heap} (hw : WF H) {a : Act} {len : Nat} (hl : len ≤ 65536) (hk : a.k = 13) : CW Try.prog 20 #[.agg a.cells.toArray, nv len] H fun x H' => x = .ret (.bool (rightP a len)) ∧ Ext H H' := by
  refine CW_k (n := 98) if20 rfl ?_
  unfold C20
  have hnb := hw.1
  simp -implicitDefEqProofs (maxDischargeDepth := 6) (maxSteps := 1000000) only [go_sem, ↓reduceIte, Nat.reduceLT, Nat.reduceLeDiff, Nat.reduceEqDiff, Nat.reduceAdd, Nat.reduceMul, Nat.reduceSub, Nat.reduceBEq, reduceCtorEq, Int.reduceEq, Int.reduceLT, Int.reduceLE, Int.reduceNeg, Int.reduceToNat, hnb, loads_eq, Act.cells]
  have hEG := (((((Ext.refl hw).alloc (⟨47, 0, false, [.int .i64 a.k, .int .i64 a.a, .int .i64 a.b, .int .i64 a.n]⟩ : Blk)).alloc (⟨47, 0, false, [.int .i64 0, .int .i64 0, .int .i64 0, .int .i64 0]⟩ : Blk)).set (b := H.next + 1) (by omega) (by simp only [next_alloc]; omega) (⟨47, 0, false, [.int .i64 0, .int .i64 a.a, .int .i64 a.b, .int .i64 a.n]⟩ : Blk)).alloc
    (⟨4, 0, false, [.bool false]⟩ : Blk)).set (b := H.next + 1 + 1) (by omega) (by simp only [next_alloc, next_set]; omega) (⟨4, 0, false, [.bool true]⟩ : Blk)
  generalize hG : (Heap.set (Heap.alloc _ _) _ _) = G at hEG ⊢
  have hP : G.get H.next = some ⟨47, 0, false, [.int .i64 a.k, .int .i64 a.a, .int .i64 a.b, .int .i64 a.n]⟩ := by rw [← hG]; simp -implicitDefEqProofs (maxDischargeDepth := 6) (maxSteps := 1000000) only [go_sem, ↓reduceIte, Nat.reduceLT, Nat.reduceLeDiff, Nat.reduceEqDiff, Nat.reduceAdd, Nat.reduceMul, Nat.reduceSub, Nat.reduceBEq, reduceCtorEq, Int.reduceEq, Int.reduceLT, Int.reduceLE, Int.reduceNeg, Int.reduceToNat, hnb]
  have hR : G.get (H.next + 1) = some ⟨47, 0, false, [.int .i64 0, .int .i64 a.a, .int .i64 a.b, .int .i64 a.n]⟩ := by rw [← hG]; simp -implicitDefEqProofs (maxDischargeDepth := 6) (maxSteps := 1000000) only [go_sem, ↓reduceIte, Nat.reduceLT, Nat.reduceLeDiff, Nat.reduceEqDiff, Nat.reduceAdd, Nat.reduceMul, Nat.reduceSub, Nat.reduceBEq, reduceCtorEq, Int.reduceEq, Int.reduceLT, Int.reduceLE, Int.reduceNeg, Int.reduceToNat, hnb]
  have hC : G.get (H.next + 1 + 1) = some ⟨4, 0, false, [.bool true]⟩ := by rw [← hG]; simp -implicitDefEqProofs (maxDischargeDepth := 6) (maxSteps := 1000000) only [go_sem, ↓reduceIte, Nat.reduceLT, Nat.reduceLeDiff, Nat.reduceEqDiff, Nat.reduceAdd, Nat.reduceMul, Nat.reduceSub, Nat.reduceBEq, reduceCtorEq, Int.reduceEq, Int.reduceLT, Int.reduceLE, Int.reduceNeg, Int.reduceToNat, hnb]
  have hnx : H.next + 1 + 1 < G.next := hEG.wf.lt hC
  clear hG
  have hb1 : base0 ≤ H.next + 1 := by omega
  have hb2 : base0 ≤ H.next + 1 + 1 := by omega
  have hb3 : H.next + 1 ≠ H.next + 1 + 1 := by omega
  have hb4 : H.next + 1 + 1 ≠ H.next + 1 := by omega
  skip <;> by_cases hn0 : 0 ≤ a.n <;> by_cases hn1 : a.n ≤ (len : Int)
  all_goals
    simp -implicitDefEqProofs (maxDischargeDepth := 6) (maxSteps := 1000000) only [go_sem, ↓reduceIte, Nat.reduceLT, Nat.reduceLeDiff, Nat.reduceEqDiff, Nat.reduceAdd, Nat.reduceMul, Nat.reduceSub, Nat.reduceBEq, reduceCtorEq, Int.reduceEq, Int.reduceLT, Int.reduceLE, Int.reduceNeg, Int.reduceToNat, hk, hnb, hP, hR, hC, hb1, hb2, hb3, hb4, loads_eq, nv, hn0, hn1]
    refine ⟨by simp [rightP, okP, restP, hk, hn0, hn1], ?_⟩
    repeat (first | exact hEG | refine Ext.set ?_ (by omega) (by (try simp only [next_set]); omega) _)
end Go.Am.T
namespace Go.Am.T
open Go Go.Am Go.Proofs.Ythanhcpnhionaaa Go.Proofs
def oddA (a : Act) : Bool := decide (a.k < 1) || decide (13 < a.k)
theorem right_o {H : Heap} (hw : WF H) {a : Act} {len : Nat} (hl : len ≤ 65536) (hk : a.k < 1 ∨ 13 < a.k) : CW Try.prog 20 #[.agg a.cells.toArray, nv len] H fun x H' => x = .ret (.bool (rightP a len)) ∧ Ext H H' := by
  refine CW_k (n := 98) if20 rfl ?_
  unfold C20
  have hnb := hw.1
  have k1 : ¬ a.k = 1 := by omega
  have k2 : ¬ a.k = 2 := by omega
  have k3 : ¬ a.k = 3 := by omega
  have k4 : ¬ a.k = 4 := by omega
  have k5 : ¬ a.k = 5 := by omega
  have k6 : ¬ a.k = 6 := by omega
  have k7 : ¬ a.k = 7 := by omega
  have k8 : ¬ a.k = 8 := by omega
  have k9 : ¬ a.k = 9 := by omega
  have k10 : ¬ a.k = 10 := by omega
  have k12 : ¬ a.k = 12 := by omega
  have k13 : ¬ a.k = 13 := by omega
  have hEG := (((((Ext.refl hw).alloc (⟨47, 0, false, [.int .i64 a.k, .int .i64 a.a, .int .i64 a.b, .int .i64 a.n]⟩ : Blk)).alloc (⟨47, 0, false, [.int .i64 0, .int .i64 0, .int .i64 0, .int .i64 0]⟩ : Blk)).set (b := H.next + 1) (by omega) (by simp only [next_alloc]; omega) (⟨47, 0, false, [.int .i64 0, .int .i64 a.a, .int .i64 a.b, .int .i64 a.n]⟩ : Blk)).alloc
    (⟨4, 0, false, [.bool false]⟩ : Blk)).set (b := H.next + 1 + 1) (by omega) (by simp only [next_alloc, next_set]; omega) (⟨4, 0, false, [.bool true]⟩ : Blk)
  simp -implicitDefEqProofs (maxDischargeDepth := 6) (maxSteps := 1000000) only [go_sem, ↓reduceIte, Nat.reduceLT, Nat.reduceLeDiff, Nat.reduceEqDiff, Nat.reduceAdd, Nat.reduceMul, Nat.reduceSub, Nat.reduceBEq, reduceCtorEq, Int.reduceEq, Int.reduceLT, Int.reduceLE, Int.reduceNeg, Int.reduceToNat, hnb, loads_eq, Act.cells, k1, k2, k3, k4, k5, k6, k7, k8, k9, k10, k12, k13]
  exact ⟨by simp [rightP, okP, restP, k1, k2, k3, k4, k5, k6, k7, k8, k9, k10, k12, k13], hEG⟩
theorem right_W {H : Heap} (hw : WF H) {a : Act} {len : Nat} (hl : len ≤ 65536) : CW Try.prog 20 #[.agg a.cells.toArray, nv len] H fun x H' => x = .ret (.bool (rightP a len)) ∧ Ext H H' := by
  by_cases h : a.k < 1 ∨ 13 < a.k
  · exact right_o hw hl h
  by_cases k1 : a.k = 1
  · exact right_1 hw hl k1
  by_cases k2 : a.k = 2
  · exact right_2 hw hl k2
  by_cases k3 : a.k = 3
  · exact right_3 hw hl k3
  by_cases k4 : a.k = 4
  · exact right_4 hw hl k4
  by_cases k5 : a.k = 5
  · exact right_5 hw hl k5
  by_cases k6 : a.k = 6
  · exact right_6 hw hl k6
  by_cases k7 : a.k = 7
  · exact right_7 hw hl k7
  by_cases k8 : a.k = 8
  · exact right_8 hw hl k8
  by_cases k9 : a.k = 9
  · exact right_9 hw hl k9
  by_cases k10 : a.k = 10
  · exact right_10 hw hl k10
  by_cases k11 : a.k = 11
  · exact right_11 hw hl k11
  by_cases k12 : a.k = 12
  · exact right_12 hw hl k12
  · exact right_13 hw hl (by omega)
def wrA (n : Nat) (a : Act) : Bool := !rightP a n
def oddL (l : List Act) : Bool := l.any oddA
def wrL (l : List Act) : Bool := l.any (wrA l.length)
def mayP (ts : List (List Act)) : Int :=
  if 16 < ts.length then 9 else if ts.any (fun l => decide (256 < l.length)) then 9 else if ts.any oddL then 62 else if ts.any wrL then 1 else 0
theorem any_take_succ {α : Type} (p : α → Bool) (l : List α) {k : Nat} (h : k < l.length) : (l.take (k + 1)).any p = ((l.take k).any p || p l[k]) := by
  rw [List.take_succ_eq_append_getElem h, List.any_append]; simp
theorem may_W {H : Heap} (hw : WF H) {tv : Value} {ts : List (List Act)} {av : Nat → Value} (ht : TasksAt H tv ts av) (hN : ts.length ≤ 70368744177664) :
    CW Try.prog 11 #[tv] H fun x H' => x = .ret (.int .i64 (mayP ts)) ∧ Ext H H' := by
  refine CW_k (n := 52) if11 rfl ?_
  unfold C11
  obtain ⟨ta, tc, htv, _⟩ := id ht.rd
  simp only [List.length_map, List.length_range] at htv
  by_cases h16 : 16 < ts.length
  · have hZ : (16 : Int) < (ts.length : Int) := by omega
    simp -implicitDefEqProofs (maxDischargeDepth := 6) (maxSteps := 1000000) only [go_sem, ↓reduceIte, Nat.reduceLT, Nat.reduceLeDiff, Nat.reduceEqDiff, Nat.reduceAdd, Nat.reduceMul, Nat.reduceSub, Nat.reduceBEq, reduceCtorEq, Int.reduceEq, Int.reduceLT, Int.reduceLE, Int.reduceNeg, Int.reduceToNat, htv, goInt, hZ, mayP, h16]
    exact Ext.refl hw
  have hZ : ¬ (16 : Int) < (ts.length : Int) := by omega
  simp -implicitDefEqProofs (maxDischargeDepth := 6) (maxSteps := 1000000) only [go_sem, ↓reduceIte, Nat.reduceLT, Nat.reduceLeDiff, Nat.reduceEqDiff, Nat.reduceAdd, Nat.reduceMul, Nat.reduceSub, Nat.reduceBEq, reduceCtorEq, Int.reduceEq, Int.reduceLT, Int.reduceLE, Int.reduceNeg, Int.reduceToNat, htv, goInt, hZ]
  refine Wk_loopF (fun m f H1 => ∃ k, m = ts.length - k ∧ k ≤ ts.length ∧ f.get 3 = some (.bool ((ts.take k).any oddL)) ∧ f.get 4 = some (.bool ((ts.take k).any wrL)) ∧ f.get 12 = some (.slice ta ts.length tc) ∧ f.get 13 = some (nv ts.length) ∧ f.get 14 = some (nv k) ∧
    Ext H H1 ∧ (ts.take k).any (fun l => decide (256 < l.length)) = false) ts.length ?_ ?_
  · refine ⟨0, by omega, by omega, ?_, ?_, ?_, ?_, ?_, Ext.refl hw, rfl⟩
    all_goals simp -implicitDefEqProofs (maxDischargeDepth := 6) (maxSteps := 1000000) only [go_sem, ↓reduceIte, Nat.reduceLT, Nat.reduceLeDiff, Nat.reduceEqDiff, Nat.reduceAdd, Nat.reduceMul, Nat.reduceSub, Nat.reduceBEq, reduceCtorEq, Int.reduceEq, Int.reduceLT, Int.reduceLE, Int.reduceNeg, Int.reduceToNat, nv, List.any_nil]
    rfl
  rintro m f H1 ⟨k, rfl, hk, f3, f4, f12, f13, f14, hE1, hsm⟩
  unfold L11_2
  by_cases hlt : k < ts.length
  · have hltZ : (k : Int) < (ts.length : Int) := by omega
    have hk0 : (0 : Int) ≤ (k : Int) := by omega
    have hw1 : IntKind.i64.wrap ((k : Int) + 1) = ((k + 1 : Nat) : Int) := IntWalk.i64_in _ (by omega)
    obtain ⟨b, o, c, x, hv, hc, hx, hxk⟩ := ht.rd.at_ (i := k) (by simpa using hlt)
    rw [htv] at hv
    simp only [Value.slice.injEq, List.length_map, List.length_range, true_and] at hv
    obtain ⟨rfl, rfl⟩ := hv
    simp only [List.getElem_map, List.getElem_range] at hxk
    obtain ⟨aa, ac, hav⟩ := (ht.acts k hlt).len
    have hx1 := hE1.of hw hx
    by_cases h256 : 256 < ts[k].length
    · have h2Z : (256 : Int) < (ts[k].length : Int) := by omega
      have hm : mayP ts = 9 := by
        unfold mayP
        rw [if_neg h16, if_pos]
        rw [List.any_eq_true]
        exact ⟨ts[k], List.getElem_mem hlt, by simpa using h256⟩
      simp -implicitDefEqProofs (maxDischargeDepth := 6) (maxSteps := 1000000) only [go_sem, ↓reduceIte, Nat.reduceLT, Nat.reduceLeDiff, Nat.reduceEqDiff, Nat.reduceAdd, Nat.reduceMul, Nat.reduceSub, Nat.reduceBEq, reduceCtorEq, Int.reduceEq, Int.reduceLT, Int.reduceLE, Int.reduceNeg, Int.reduceToNat, f3, f4, f12, f13, f14, nv, hltZ, hk0, hc, hx1, hxk, hav, goInt, h2Z, hm]
      exact hE1
    · have h2Z : ¬ (256 : Int) < (ts[k].length : Int) := by omega
      have hwl : (ts.take (k + 1)).any (fun l => decide (256 < l.length)) = false := by
        rw [any_take_succ _ _ hlt, hsm]; simpa using h256
      simp -implicitDefEqProofs (maxDischargeDepth := 6) (maxSteps := 1000000) only [go_sem, ↓reduceIte, Nat.reduceLT, Nat.reduceLeDiff, Nat.reduceEqDiff, Nat.reduceAdd, Nat.reduceMul, Nat.reduceSub, Nat.reduceBEq, reduceCtorEq, Int.reduceEq, Int.reduceLT, Int.reduceLE, Int.reduceNeg, Int.reduceToNat, f3, f4, f12, f13, f14, nv, hltZ, hk0, hc, hx1, hxk, hav, goInt, h2Z]
      generalize ho0 : (ts.take k).any oddL = o0 at *
      generalize hw0 : (ts.take k).any wrL = w0 at *
      generalize hl : ts[k] = l at *
      have hA : ActsAt H (av k) l := by rw [← hl]; exact ht.acts k hlt
      refine Wk_loopF (fun m f H2 => ∃ j, m = l.length - j ∧ j ≤ l.length ∧ f.get 3 = some (.bool (o0 || (l.take j).any oddA)) ∧ f.get 4 = some (.bool (w0 || (l.take j).any (wrA l.length))) ∧ f.get 6 = some (.slice aa l.length ac) ∧ f.get 21 = some (.slice aa l.length ac) ∧ f.get 22 = some (nv l.length) ∧ f.get 23 = some (nv j) ∧
        f.get 12 = some (.slice (some ⟨b, o, none⟩) ts.length tc) ∧ f.get 13 = some (nv ts.length) ∧ f.get 14 = some (nv k) ∧ Ext H H2) l.length ?_ ?_
      · refine ⟨0, by omega, by omega, ?_, ?_, ?_, ?_, ?_, ?_, ?_, ?_, ?_, hE1⟩
        all_goals simp -implicitDefEqProofs (maxDischargeDepth := 6) (maxSteps := 1000000) only [go_sem, ↓reduceIte, Nat.reduceLT, Nat.reduceLeDiff, Nat.reduceEqDiff, Nat.reduceAdd, Nat.reduceMul, Nat.reduceSub, Nat.reduceBEq, reduceCtorEq, Int.reduceEq, Int.reduceLT, Int.reduceLE, Int.reduceNeg, Int.reduceToNat, nv, List.any_nil, f3, f4, f12, f13, f14]
        rfl
      rintro m f H2 ⟨j, rfl, hj, g3, g4, g6, g21, g22, g23, g12, g13, g14, hE2⟩
      unfold L11_1
      by_cases hjl : j < l.length
      · have hjZ : (j : Int) < (l.length : Int) := by omega
        have hj0 : (0 : Int) ≤ (j : Int) := by omega
        have hw2 : IntKind.i64.wrap ((j : Int) + 1) = ((j + 1 : Nat) : Int) := IntWalk.i64_in _ (by omega)
        obtain ⟨b2, o2, c2, x2, hv2, hc2, hx2, hle2, hcs2⟩ := hA.at_ hjl
        rw [hav] at hv2
        simp only [Value.slice.injEq, true_and] at hv2
        obtain ⟨rfl, rfl⟩ := hv2
        have hx22 := hE2.of hw hx2
        have hxl := hE2.wf.lt hx22
        have hnb2 := hE2.wf.1
        have ho1 : (o0 || (l.take (j + 1)).any oddA) = ((o0 || (l.take j).any oddA) || oddA l[j]) := by rw [any_take_succ _ _ hjl, Bool.or_assoc]
        have hw1' : (w0 || (l.take (j + 1)).any (wrA l.length)) = ((w0 || (l.take j).any (wrA l.length)) || wrA l.length l[j]) := by rw [any_take_succ _ _ hjl, Bool.or_assoc]
        generalize (o0 || (l.take j).any oddA) = od at *
        generalize (w0 || (l.take j).any (wrA l.length)) = wr at *
        generalize l[j] = a at *
        have hE3 : Ext H ((H2.alloc (⟨47, 0, false, [.int .i64 0, .int .i64 0, .int .i64 0, .int .i64 0]⟩ : Blk)).set H2.next ⟨47, 0, false, a.cells⟩) := (hE2.alloc _).set hE2.le (by simp only [next_alloc]; omega) _
        cases wr with
        | true =>
          cases od <;> by_cases h1 : a.k < 1 <;> by_cases h13 : 13 < a.k
          all_goals
            simp -implicitDefEqProofs (maxDischargeDepth := 6) (maxSteps := 1000000) only [go_sem, ↓reduceIte, Nat.reduceLT, Nat.reduceLeDiff, Nat.reduceEqDiff, Nat.reduceAdd, Nat.reduceMul, Nat.reduceSub, Nat.reduceBEq, reduceCtorEq, Int.reduceEq, Int.reduceLT, Int.reduceLE, Int.reduceNeg, Int.reduceToNat, g3, g4, g6, g21, g22, g23, g12, g13, g14, nv, hjZ, hj0, hc2, hx22, hle2, hcs2, hxl, hnb2, hw2, loads_eq, goInt, h1, h13]
            refine ⟨l.length - (j + 1), by omega, j + 1, rfl, by omega, ?_, ?_, ?_, ?_, ?_, ?_, ?_, ?_, ?_, hE3⟩
            · rw [ho1]; simp -implicitDefEqProofs (maxDischargeDepth := 6) (maxSteps := 1000000) only [go_sem, ↓reduceIte, Nat.reduceLT, Nat.reduceLeDiff, Nat.reduceEqDiff, Nat.reduceAdd, Nat.reduceMul, Nat.reduceSub, Nat.reduceBEq, reduceCtorEq, Int.reduceEq, Int.reduceLT, Int.reduceLE, Int.reduceNeg, Int.reduceToNat, oddA, h1, h13]
            · rw [hw1']; simp -implicitDefEqProofs (maxDischargeDepth := 6) (maxSteps := 1000000) only [go_sem, ↓reduceIte, Nat.reduceLT, Nat.reduceLeDiff, Nat.reduceEqDiff, Nat.reduceAdd, Nat.reduceMul, Nat.reduceSub, Nat.reduceBEq, reduceCtorEq, Int.reduceEq, Int.reduceLT, Int.reduceLE, Int.reduceNeg, Int.reduceToNat, g4]
            · simp only [Tr.get_put, Nat.reduceEqDiff, ↓reduceIte, g6]
            · simp only [Tr.get_put, Nat.reduceEqDiff, ↓reduceIte, g21]
            · simp only [Tr.get_put, Nat.reduceEqDiff, ↓reduceIte, g22, nv]
            · simp only [Tr.get_put, Nat.reduceEqDiff, ↓reduceIte, nv]
            · simp only [Tr.get_put, Nat.reduceEqDiff, ↓reduceIte, g12]
            · simp only [Tr.get_put, Nat.reduceEqDiff, ↓reduceIte, g13, nv]
            · simp only [Tr.get_put, Nat.reduceEqDiff, ↓reduceIte, g14, nv]
        | false =>
          cases od <;> by_cases h1 : a.k < 1 <;> by_cases h13 : 13 < a.k
          all_goals
            simp -implicitDefEqProofs (maxDischargeDepth := 6) (maxSteps := 1000000) only [go_sem, ↓reduceIte, Nat.reduceLT, Nat.reduceLeDiff, Nat.reduceEqDiff, Nat.reduceAdd, Nat.reduceMul, Nat.reduceSub, Nat.reduceBEq, reduceCtorEq, Int.reduceEq, Int.reduceLT, Int.reduceLE, Int.reduceNeg, Int.reduceToNat, g3, g4, g6, g21, g22, g23, g12, g13, g14, nv, hjZ, hj0, hc2, hx22, hle2, hcs2, hxl, hnb2, hw2, loads_eq, goInt, h1, h13]
            refine CW_mono _ (right_W hE3.wf (len := l.length) (by omega)) ?_
            rintro _ H4 ⟨rfl, hE4⟩
            simp -implicitDefEqProofs (maxDischargeDepth := 6) (maxSteps := 1000000) only [go_sem, ↓reduceIte, Nat.reduceLT, Nat.reduceLeDiff, Nat.reduceEqDiff, Nat.reduceAdd, Nat.reduceMul, Nat.reduceSub, Nat.reduceBEq, reduceCtorEq, Int.reduceEq, Int.reduceLT, Int.reduceLE, Int.reduceNeg, Int.reduceToNat, g3, g4, g6, g21, g22, g23, g12, g13, g14, nv, hjZ, hj0, hc2, hx22, hle2, hcs2, hxl, hnb2, hw2, loads_eq, goInt, h1, h13]
            refine ⟨l.length - (j + 1), by omega, j + 1, rfl, by omega, ?_, ?_, ?_, ?_, ?_, ?_, ?_, ?_, ?_, hE3.trans hE4⟩
            · rw [ho1]; simp -implicitDefEqProofs (maxDischargeDepth := 6) (maxSteps := 1000000) only [go_sem, ↓reduceIte, Nat.reduceLT, Nat.reduceLeDiff, Nat.reduceEqDiff, Nat.reduceAdd, Nat.reduceMul, Nat.reduceSub, Nat.reduceBEq, reduceCtorEq, Int.reduceEq, Int.reduceLT, Int.reduceLE, Int.reduceNeg, Int.reduceToNat, oddA, h1, h13]
            · rw [hw1']; simp -implicitDefEqProofs (maxDischargeDepth := 6) (maxSteps := 1000000) only [go_sem, ↓reduceIte, Nat.reduceLT, Nat.reduceLeDiff, Nat.reduceEqDiff, Nat.reduceAdd, Nat.reduceMul, Nat.reduceSub, Nat.reduceBEq, reduceCtorEq, Int.reduceEq, Int.reduceLT, Int.reduceLE, Int.reduceNeg, Int.reduceToNat, wrA]
            · simp only [Tr.get_put, Nat.reduceEqDiff, ↓reduceIte, g6]
            · simp only [Tr.get_put, Nat.reduceEqDiff, ↓reduceIte, g21]
            · simp only [Tr.get_put, Nat.reduceEqDiff, ↓reduceIte, g22, nv]
            · simp only [Tr.get_put, Nat.reduceEqDiff, ↓reduceIte, nv]
            · simp only [Tr.get_put, Nat.reduceEqDiff, ↓reduceIte, g12]
            · simp only [Tr.get_put, Nat.reduceEqDiff, ↓reduceIte, g13, nv]
            · simp only [Tr.get_put, Nat.reduceEqDiff, ↓reduceIte, g14, nv]
      · have hjZ : ¬ (j : Int) < (l.length : Int) := by omega
        obtain rfl : j = l.length := by omega
        simp -implicitDefEqProofs (maxDischargeDepth := 6) (maxSteps := 1000000) only [go_sem, ↓reduceIte, Nat.reduceLT, Nat.reduceLeDiff, Nat.reduceEqDiff, Nat.reduceAdd, Nat.reduceMul, Nat.reduceSub, Nat.reduceBEq, reduceCtorEq, Int.reduceEq, Int.reduceLT, Int.reduceLE, Int.reduceNeg, Int.reduceToNat, g3, g4, g6, g21, g22, g23, g12, g13, g14, nv, hjZ, hw1]
        refine ⟨ts.length - (k + 1), by omega, k + 1, rfl, by omega, ?_, ?_, ?_, ?_, ?_, hE2, hwl⟩
        · rw [any_take_succ _ _ hlt, ho0, hl]; simp -implicitDefEqProofs (maxDischargeDepth := 6) (maxSteps := 1000000) only [go_sem, ↓reduceIte, Nat.reduceLT, Nat.reduceLeDiff, Nat.reduceEqDiff, Nat.reduceAdd, Nat.reduceMul, Nat.reduceSub, Nat.reduceBEq, reduceCtorEq, Int.reduceEq, Int.reduceLT, Int.reduceLE, Int.reduceNeg, Int.reduceToNat, g3, List.take_length, oddL]
        · rw [any_take_succ _ _ hlt, hw0, hl]; simp -implicitDefEqProofs (maxDischargeDepth := 6) (maxSteps := 1000000) only [go_sem, ↓reduceIte, Nat.reduceLT, Nat.reduceLeDiff, Nat.reduceEqDiff, Nat.reduceAdd, Nat.reduceMul, Nat.reduceSub, Nat.reduceBEq, reduceCtorEq, Int.reduceEq, Int.reduceLT, Int.reduceLE, Int.reduceNeg, Int.reduceToNat, g4, List.take_length, wrL]
        · simp only [Tr.get_put, Nat.reduceEqDiff, ↓reduceIte, g12]
        · simp only [Tr.get_put, Nat.reduceEqDiff, ↓reduceIte, g13, nv]
        · simp only [Tr.get_put, Nat.reduceEqDiff, ↓reduceIte, nv]
  · have hltZ : ¬ (k : Int) < (ts.length : Int) := by omega
    obtain rfl : k = ts.length := by omega
    rw [List.take_length] at f3 f4 hsm
    cases ho : ts.any oddL with
    | true =>
      have hm : mayP ts = 62 := by
        unfold mayP
        rw [if_neg h16, if_neg (by rw [hsm]; simp), if_pos ho]
      simp -implicitDefEqProofs (maxDischargeDepth := 6) (maxSteps := 1000000) only [go_sem, ↓reduceIte, Nat.reduceLT, Nat.reduceLeDiff, Nat.reduceEqDiff, Nat.reduceAdd, Nat.reduceMul, Nat.reduceSub, Nat.reduceBEq, reduceCtorEq, Int.reduceEq, Int.reduceLT, Int.reduceLE, Int.reduceNeg, Int.reduceToNat, f3, f4, f12, f13, f14, nv, hltZ, ho, hm]
      exact hE1
    | false =>
      cases hwr : ts.any wrL with
      | true =>
        have hm : mayP ts = 1 := by
          unfold mayP
          rw [if_neg h16, if_neg (by rw [hsm]; simp), if_neg (by rw [ho]; simp), if_pos hwr]
        simp -implicitDefEqProofs (maxDischargeDepth := 6) (maxSteps := 1000000) only [go_sem, ↓reduceIte, Nat.reduceLT, Nat.reduceLeDiff, Nat.reduceEqDiff, Nat.reduceAdd, Nat.reduceMul, Nat.reduceSub, Nat.reduceBEq, reduceCtorEq, Int.reduceEq, Int.reduceLT, Int.reduceLE, Int.reduceNeg, Int.reduceToNat, f3, f4, f12, f13, f14, nv, hltZ, ho, hwr, hm]
        exact hE1
      | false =>
        have hm : mayP ts = 0 := by
          unfold mayP
          rw [if_neg h16, if_neg (by rw [hsm]; simp), if_neg (by rw [ho]; simp), if_neg (by rw [hwr]; simp)]
        simp -implicitDefEqProofs (maxDischargeDepth := 6) (maxSteps := 1000000) only [go_sem, ↓reduceIte, Nat.reduceLT, Nat.reduceLeDiff, Nat.reduceEqDiff, Nat.reduceAdd, Nat.reduceMul, Nat.reduceSub, Nat.reduceBEq, reduceCtorEq, Int.reduceEq, Int.reduceLT, Int.reduceLE, Int.reduceNeg, Int.reduceToNat, f3, f4, f12, f13, f14, nv, hltZ, ho, hwr, hm]
        exact hE1
end Go.Am.T
namespace Go.Am.T
open Go Go.Am Go.Proofs.Ythanhcpnhionaaa Go.Proofs
def askedP (ts : List (List Act)) (room : Int) (picks : List Int) (most : Int) : Int :=
  if mayP ts ≠ 0 then mayP ts else if room < 1 then 1 else if 16 < room then 1 else if most < 0 then 1 else if 65536 < most then 1 else if 65536 < picks.length then 1
  else if picks.any (fun p => decide (p < 0)) then 1 else 0
theorem asked_W {H : Heap} (hw : WF H) {tv pv : Value} {ts : List (List Act)} {av : Nat → Value} (ht : TasksAt H tv ts av) (hN : ts.length ≤ 70368744177664) {room most : Int} {picks : List Int} (hp : RdI H pv (picks.map iv)) :
    CW Try.prog 28 #[tv, .int .i64 room, pv, .int .i64 most] H fun x H' => x = .ret (.int .i64 (askedP ts room picks most)) ∧ Ext H H' := by
  refine CW_k (n := 45) if28 rfl ?_
  unfold C28
  obtain ⟨pa, pc, hpv, _⟩ := id hp
  simp only [List.length_map] at hpv
  simp -implicitDefEqProofs (maxDischargeDepth := 6) (maxSteps := 1000000) only [go_sem, ↓reduceIte, Nat.reduceLT, Nat.reduceLeDiff, Nat.reduceEqDiff, Nat.reduceAdd, Nat.reduceMul, Nat.reduceSub, Nat.reduceBEq, reduceCtorEq, Int.reduceEq, Int.reduceLT, Int.reduceLE, Int.reduceNeg, Int.reduceToNat, ]
  refine CW_mono _ (may_W hw ht hN) ?_
  rintro _ H1 ⟨rfl, hE⟩
  by_cases hm : mayP ts = 0
  case neg =>
    simp -implicitDefEqProofs (maxDischargeDepth := 6) (maxSteps := 1000000) only [go_sem, ↓reduceIte, Nat.reduceLT, Nat.reduceLeDiff, Nat.reduceEqDiff, Nat.reduceAdd, Nat.reduceMul, Nat.reduceSub, Nat.reduceBEq, reduceCtorEq, Int.reduceEq, Int.reduceLT, Int.reduceLE, Int.reduceNeg, Int.reduceToNat, hm]
    exact ⟨by simp [askedP, hm], hE⟩
  by_cases c1 : room < 1
  · simp -implicitDefEqProofs (maxDischargeDepth := 6) (maxSteps := 1000000) only [go_sem, ↓reduceIte, Nat.reduceLT, Nat.reduceLeDiff, Nat.reduceEqDiff, Nat.reduceAdd, Nat.reduceMul, Nat.reduceSub, Nat.reduceBEq, reduceCtorEq, Int.reduceEq, Int.reduceLT, Int.reduceLE, Int.reduceNeg, Int.reduceToNat, hm, c1]
    exact ⟨by simp [askedP, hm, c1], hE⟩
  by_cases c2 : 16 < room
  · simp -implicitDefEqProofs (maxDischargeDepth := 6) (maxSteps := 1000000) only [go_sem, ↓reduceIte, Nat.reduceLT, Nat.reduceLeDiff, Nat.reduceEqDiff, Nat.reduceAdd, Nat.reduceMul, Nat.reduceSub, Nat.reduceBEq, reduceCtorEq, Int.reduceEq, Int.reduceLT, Int.reduceLE, Int.reduceNeg, Int.reduceToNat, hm, c1, c2]
    exact ⟨by simp [askedP, hm, c1, c2], hE⟩
  by_cases c3 : most < 0
  · simp -implicitDefEqProofs (maxDischargeDepth := 6) (maxSteps := 1000000) only [go_sem, ↓reduceIte, Nat.reduceLT, Nat.reduceLeDiff, Nat.reduceEqDiff, Nat.reduceAdd, Nat.reduceMul, Nat.reduceSub, Nat.reduceBEq, reduceCtorEq, Int.reduceEq, Int.reduceLT, Int.reduceLE, Int.reduceNeg, Int.reduceToNat, hm, c1, c2, c3]
    exact ⟨by simp [askedP, hm, c1, c2, c3], hE⟩
  by_cases c4 : 65536 < most
  · simp -implicitDefEqProofs (maxDischargeDepth := 6) (maxSteps := 1000000) only [go_sem, ↓reduceIte, Nat.reduceLT, Nat.reduceLeDiff, Nat.reduceEqDiff, Nat.reduceAdd, Nat.reduceMul, Nat.reduceSub, Nat.reduceBEq, reduceCtorEq, Int.reduceEq, Int.reduceLT, Int.reduceLE, Int.reduceNeg, Int.reduceToNat, hm, c1, c2, c3, c4]
    exact ⟨by simp [askedP, hm, c1, c2, c3, c4], hE⟩
  by_cases c5 : 65536 < picks.length
  · have c5Z : (65536 : Int) < (picks.length : Int) := by omega
    simp -implicitDefEqProofs (maxDischargeDepth := 6) (maxSteps := 1000000) only [go_sem, ↓reduceIte, Nat.reduceLT, Nat.reduceLeDiff, Nat.reduceEqDiff, Nat.reduceAdd, Nat.reduceMul, Nat.reduceSub, Nat.reduceBEq, reduceCtorEq, Int.reduceEq, Int.reduceLT, Int.reduceLE, Int.reduceNeg, Int.reduceToNat, hm, c1, c2, c3, c4, c5Z, hpv, goInt]
    exact ⟨by simp [askedP, hm, c1, c2, c3, c4, c5], hE⟩
  have c5Z : ¬ (65536 : Int) < (picks.length : Int) := by omega
  simp -implicitDefEqProofs (maxDischargeDepth := 6) (maxSteps := 1000000) only [go_sem, ↓reduceIte, Nat.reduceLT, Nat.reduceLeDiff, Nat.reduceEqDiff, Nat.reduceAdd, Nat.reduceMul, Nat.reduceSub, Nat.reduceBEq, reduceCtorEq, Int.reduceEq, Int.reduceLT, Int.reduceLE, Int.reduceNeg, Int.reduceToNat, hm, c1, c2, c3, c4, c5Z, hpv, goInt]
  refine Wk_loopF (fun m f H2 => ∃ k, m = picks.length - k ∧ k ≤ picks.length ∧ f.get 36 = some (.slice pa picks.length pc) ∧ f.get 37 = some (nv picks.length) ∧ f.get 38 = some (nv k) ∧ H2 = H1 ∧ (picks.take k).any (fun p => decide (p < 0)) = false) picks.length ?_ ?_
  · refine ⟨0, by omega, by omega, ?_, ?_, ?_, rfl, rfl⟩
    all_goals simp -implicitDefEqProofs (maxDischargeDepth := 6) (maxSteps := 1000000) only [go_sem, ↓reduceIte, Nat.reduceLT, Nat.reduceLeDiff, Nat.reduceEqDiff, Nat.reduceAdd, Nat.reduceMul, Nat.reduceSub, Nat.reduceBEq, reduceCtorEq, Int.reduceEq, Int.reduceLT, Int.reduceLE, Int.reduceNeg, Int.reduceToNat, nv]
    rfl
  rintro m f H2 ⟨k, rfl, hk, f36, f37, f38, rfl, hall⟩
  unfold L28_1
  by_cases hlt : k < picks.length
  · have hltZ : (k : Int) < (picks.length : Int) := by omega
    have hk0 : (0 : Int) ≤ (k : Int) := by omega
    have hw1 : IntKind.i64.wrap ((k : Int) + 1) = ((k + 1 : Nat) : Int) := IntWalk.i64_in _ (by omega)
    obtain ⟨b, o, c, x, hv, hc, hx, hxk⟩ := hp.at_ (i := k) (by simpa using hlt)
    rw [hpv] at hv
    simp only [Value.slice.injEq, List.length_map, true_and] at hv
    obtain ⟨rfl, rfl⟩ := hv
    simp only [List.getElem_map, iv] at hxk
    have hx1 := hE.of hw hx
    by_cases hn : picks[k] < 0
    · have hany : picks.any (fun p => decide (p < 0)) = true := by
        rw [List.any_eq_true]; exact ⟨picks[k], List.getElem_mem hlt, by simpa using hn⟩
      simp -implicitDefEqProofs (maxDischargeDepth := 6) (maxSteps := 1000000) only [go_sem, ↓reduceIte, Nat.reduceLT, Nat.reduceLeDiff, Nat.reduceEqDiff, Nat.reduceAdd, Nat.reduceMul, Nat.reduceSub, Nat.reduceBEq, reduceCtorEq, Int.reduceEq, Int.reduceLT, Int.reduceLE, Int.reduceNeg, Int.reduceToNat, f36, f37, f38, nv, hltZ, hk0, hc, hx1, hxk, hn]
      refine ⟨?_, hE⟩
      unfold askedP
      rw [if_neg (by simpa using hm), if_neg c1, if_neg c2, if_neg c3, if_neg c4, if_neg c5, if_pos hany]
    · simp -implicitDefEqProofs (maxDischargeDepth := 6) (maxSteps := 1000000) only [go_sem, ↓reduceIte, Nat.reduceLT, Nat.reduceLeDiff, Nat.reduceEqDiff, Nat.reduceAdd, Nat.reduceMul, Nat.reduceSub, Nat.reduceBEq, reduceCtorEq, Int.reduceEq, Int.reduceLT, Int.reduceLE, Int.reduceNeg, Int.reduceToNat, f36, f37, f38, nv, hltZ, hk0, hc, hx1, hxk, hn, hw1]
      refine ⟨picks.length - (k + 1), by omega, k + 1, rfl, by omega, ?_, ?_, ?_, rfl, ?_⟩
      · simp only [Tr.get_put, Nat.reduceEqDiff, ↓reduceIte, f36]
      · simp only [Tr.get_put, Nat.reduceEqDiff, ↓reduceIte, f37, nv]
      · simp only [Tr.get_put, Nat.reduceEqDiff, ↓reduceIte, nv]
      · rw [any_take_succ _ _ hlt, hall]; simpa using hn
  · have hltZ : ¬ (k : Int) < (picks.length : Int) := by omega
    obtain rfl : k = picks.length := by omega
    rw [List.take_length] at hall
    simp -implicitDefEqProofs (maxDischargeDepth := 6) (maxSteps := 1000000) only [go_sem, ↓reduceIte, Nat.reduceLT, Nat.reduceLeDiff, Nat.reduceEqDiff, Nat.reduceAdd, Nat.reduceMul, Nat.reduceSub, Nat.reduceBEq, reduceCtorEq, Int.reduceEq, Int.reduceLT, Int.reduceLE, Int.reduceNeg, Int.reduceToNat, f36, f37, f38, nv, hltZ]
    refine ⟨?_, hE⟩
    unfold askedP
    rw [if_neg (by simpa using hm), if_neg c1, if_neg c2, if_neg c3, if_neg c4, if_neg c5, if_neg (by rw [hall]; simp)]
structure Fine (ts : List (List Act)) (room : Int) (picks : List Int) (most : Int) : Prop where
  n : ts.length ≤ 16
  len : ∀ l ∈ ts, l.length ≤ 256
  valid : ∀ l ∈ ts, ∀ a ∈ l, Valid l.length a
  r1 : 1 ≤ room
  r2 : room ≤ 16
  m1 : 0 ≤ most
  m2 : most ≤ 65536
  p : picks.length ≤ 65536
  pos : ∀ p ∈ picks, 0 ≤ p
theorem btw_iff {z m : Int} : btw z m = true ↔ 0 ≤ z ∧ z < m := by simp [btw]
theorem valid_of {a : Act} {len : Nat} (ho : oddA a = false) (hr : wrA len a = false) : Valid len a := by
  unfold oddA at ho
  simp only [Bool.or_eq_false_iff, decide_eq_false_iff_not, Int.not_lt] at ho
  unfold wrA rightP at hr
  simp only [Bool.not_eq_false', Bool.and_eq_true] at hr
  obtain ⟨hr, hr2⟩ := hr
  unfold okP at hr
  unfold restP at hr2
  refine ⟨by omega, by omega, fun h => ?_, fun h => ?_, fun h => ?_, fun h => ?_, fun h => ?_, fun h => ?_⟩
  · by_cases c1 : a.k = 1 ∨ a.k = 2 ∨ a.k = 4 ∨ a.k = 5
    · rw [if_pos c1] at hr; exact btw_iff.1 hr
    · rw [if_neg c1] at hr
      by_cases c3 : a.k = 3
      · rw [if_pos c3, Bool.and_eq_true] at hr; exact btw_iff.1 hr.1
      · rw [if_neg c3] at hr
        by_cases c6 : a.k = 6
        · rw [if_pos c6] at hr; exact btw_iff.1 hr
        · rw [if_neg c6, if_pos (by omega), Bool.and_eq_true] at hr; exact btw_iff.1 hr.1
  · rw [if_neg (by omega), if_neg (by omega), if_neg (by omega), if_neg (by omega)] at hr
    by_cases c8 : a.k = 8
    · rw [if_pos c8] at hr; exact btw_iff.1 hr
    · rw [if_neg c8] at hr
      by_cases c9 : a.k = 9
      · rw [if_pos c9, Bool.and_eq_true] at hr; exact btw_iff.1 hr.1
      · rw [if_neg c9, if_pos (by omega), Bool.and_eq_true, Bool.and_eq_true] at hr; exact btw_iff.1 hr.1.1
  · rw [if_neg (by omega), if_pos h, Bool.and_eq_true] at hr; exact btw_iff.1 hr.2
  · by_cases c7 : a.k = 7
    · rw [if_neg (by omega), if_neg (by omega), if_neg (by omega), if_pos c7, Bool.and_eq_true] at hr; exact btw_iff.1 hr.2
    · rw [if_neg (by omega), if_neg (by omega), if_neg (by omega), if_neg (by omega), if_neg (by omega), if_pos (by omega), Bool.and_eq_true] at hr; exact btw_iff.1 hr.2
  · rw [if_neg (by omega), if_neg (by omega), if_neg (by omega), if_neg (by omega), if_neg (by omega), if_neg (by omega), if_pos h, Bool.and_eq_true, Bool.and_eq_true] at hr
    exact ⟨by simpa using hr.1.2, by simpa using hr.2⟩
  · rw [if_neg (by omega), if_neg (by omega), if_neg (by omega), if_neg (by omega), if_neg (by omega), if_neg (by omega), if_neg (by omega), if_pos h, Bool.and_eq_true] at hr
    exact ⟨by simpa using hr.1, by simpa using hr.2⟩
theorem may_ok {ts : List (List Act)} (h : mayP ts = 0) : ts.length ≤ 16 ∧ (∀ l ∈ ts, l.length ≤ 256) ∧ ∀ l ∈ ts, ∀ a ∈ l, Valid l.length a := by
  unfold mayP at h
  by_cases c1 : 16 < ts.length
  · rw [if_pos c1] at h; cases h
  rw [if_neg c1] at h
  by_cases c2 : ts.any (fun l => decide (256 < l.length)) = true
  · rw [if_pos c2] at h; cases h
  rw [if_neg c2] at h
  by_cases c3 : ts.any oddL = true
  · rw [if_pos c3] at h; cases h
  rw [if_neg c3] at h
  by_cases c4 : ts.any wrL = true
  · rw [if_pos c4] at h; cases h
  refine ⟨by omega, fun l hl => ?_, fun l hl a ha => ?_⟩
  · simp only [List.any_eq_true, decide_eq_true_eq, not_exists, not_and, Nat.not_lt] at c2; exact c2 l hl
  · simp only [List.any_eq_true, not_exists, not_and, oddL, wrL, Bool.not_eq_true] at c3 c4
    exact valid_of (c3 l hl a ha) (c4 l hl a ha)
theorem asked_ok {ts : List (List Act)} {room most : Int} {picks : List Int} (h : askedP ts room picks most = 0) : Fine ts room picks most := by
  unfold askedP at h
  by_cases c0 : mayP ts = 0
  case neg => rw [if_pos (by simpa using c0)] at h; exact absurd h c0
  rw [if_neg (by simpa using c0)] at h
  by_cases c1 : room < 1
  · rw [if_pos c1] at h; cases h
  rw [if_neg c1] at h
  by_cases c2 : 16 < room
  · rw [if_pos c2] at h; cases h
  rw [if_neg c2] at h
  by_cases c3 : most < 0
  · rw [if_pos c3] at h; cases h
  rw [if_neg c3] at h
  by_cases c4 : 65536 < most
  · rw [if_pos c4] at h; cases h
  rw [if_neg c4] at h
  by_cases c5 : 65536 < picks.length
  · rw [if_pos c5] at h; cases h
  rw [if_neg c5] at h
  by_cases c6 : picks.any (fun p => decide (p < 0)) = true
  · rw [if_pos c6] at h; cases h
  obtain ⟨h1, h2, h3⟩ := may_ok c0
  refine ⟨h1, h2, h3, by omega, by omega, by omega, by omega, by omega, fun p hp => ?_⟩
  simp only [List.any_eq_true, decide_eq_true_eq, not_exists, not_and, Int.not_lt] at c6
  exact c6 p hp
theorem Fine.okR {ts : List (List Act)} {room most : Int} {picks : List Int} (h : Fine ts room picks most) : OkR (S0 ts room) := by
  have hg : ∀ i, i < ts.length → ts.getD i [] ∈ ts := by intro i hi; rw [List.getD_eq_getElem?_getD, List.getElem?_eq_getElem hi]; exact List.getElem_mem hi
  refine ⟨fun i hi k hk => ?_, fun j hj i hi => ?_, fun i hi => ?_, ?_, fun j => Nat.le_refl _, fun j => Nat.le_refl _⟩
  · exact h.valid _ (hg i hi) _ (List.getElem_mem hk)
  · cases hi
  · exact Nat.le_trans (h.len _ (hg i hi)) (by omega)
  · show ts.length ≤ 65536
    have := h.n; omega
end Go.Am.T
namespace Go.Am.T
open Go Go.Am Go.Proofs.Ythanhcpnhionaaa Go.Proofs
theorem Frm.toExt {H H1 H2 : Heap} {M M' : Mem} (hE : Ext H H1) (hw : WF H2) (hF : Frm H1 M H2 M') (hno : ∀ b, b < H.next → M.own b = none) : Ext H H2 :=
  ⟨hw, Nat.le_trans hE.le hF.le, fun b hb => (hF.get b (Nat.lt_of_lt_of_le hb hE.le) (hno b hb)).trans (hE.get b hb)⟩
theorem RdI.noOwn {H H1 : Heap} {M : Mem} {v : Value} {l : List Value} (hw : WF H) (h : RdI H v l) (hE : Ext H H1) (hno : ∀ b, b < H.next → M.own b = none) : RdN M H1 v l := by
  refine ⟨h.of fun b x hb => hE.of hw hb, ?_⟩
  intro a n c e hl
  obtain ⟨a', c', e', k⟩ := h
  obtain ⟨hc, b, o, x, ha, hx, _⟩ := k hl
  subst ha
  rw [e] at e'
  simp only [Value.slice.injEq, Option.some.injEq] at e'
  obtain ⟨rfl, _⟩ := e'
  exact hno b (hw.lt hx)
theorem TasksAt.of {H H' : Heap} {tv : Value} {ts : List (List Act)} {av : Nat → Value} (h : TasksAt H tv ts av) (hw : WF H) (hE : Ext H H') : TasksAt H' tv ts av :=
  ⟨h.rd.of fun b x hb => hE.of hw hb, fun i hi => (h.acts i hi).of fun b x hb => hE.of hw hb⟩
theorem okR_run : ∀ (k : Nat) {S : Sx} (picks : List Int), OkR S → OkR (runM k S picks)
  | 0, S, picks, h => h
  | k + 1, S, picks, h => by
    unfold runM
    split
    · exact h
    · rename_i hem
      obtain ⟨hi, hh⟩ := mem_rdy.1 (nextP_mem (last := S.last) (k := S.trace.length) (picks := picks) hem)
      obtain ⟨hat, _, _⟩ := how_3 hh
      exact okR_run k picks (h.step hi hat)
theorem runM_len : ∀ (k : Nat) {S : Sx} (picks : List Int), (runM k S picks).trace.length ≤ S.trace.length + k
  | 0, S, picks => Nat.le_refl _
  | k + 1, S, picks => by
    unfold runM
    split
    · omega
    · rename_i hem
      obtain ⟨hi, hh⟩ := mem_rdy.1 (nextP_mem (last := S.last) (k := S.trace.length) (picks := picks) hem)
      obtain ⟨hat, _, _⟩ := how_3 hh
      have := runM_len k (S := stepM S (nextP S.last S.trace.length (rdy S) picks)) picks
      have kt : (stepM S (nextP S.last S.trace.length (rdy S) picks)).trace.length = S.trace.length + 1 := by rw [(stepM_kp hi hat).trace]; simp [begS]
      omega
theorem runM_N : ∀ (k : Nat) {S : Sx} (picks : List Int), (runM k S picks).N = S.N ∧ (runM k S picks).room = S.room
  | 0, S, picks => ⟨rfl, rfl⟩
  | k + 1, S, picks => by
    unfold runM
    split
    · exact ⟨rfl, rfl⟩
    · rename_i hem
      obtain ⟨hi, hh⟩ := mem_rdy.1 (nextP_mem (last := S.last) (k := S.trace.length) (picks := picks) hem)
      obtain ⟨hat, _, _⟩ := how_3 hh
      have := runM_N k (S := stepM S (nextP S.last S.trace.length (rdy S) picks)) picks
      have hk := stepM_kp hi hat
      exact ⟨this.1.trans hk.N, this.2.trans hk.room⟩
def ReadyPost (H : Heap) (ts : List (List Act)) (room : Int) (picks : List Int) (x : CR) (H' : Heap) : Prop :=
  Ext H H' ∧ ∃ v, x = .ret (.tuple #[v, .int .i64 (askedP ts room picks 0)]) ∧
      (askedP ts room picks 0 ≠ 0 → v = .slice none 0 0) ∧
      (askedP ts room picks 0 = 0 → OwnL (fun b => H.next ≤ b) H' 1 3 v (rdy (runM picks.length (S0 ts room) picks)).length ((rdy (runM picks.length (S0 ts room) picks)).map nv))
theorem Ready_W {H : Heap} (hw : WF H) {tv pv : Value} {ts : List (List Act)} {av : Nat → Value} (ht : TasksAt H tv ts av) (hN : ts.length ≤ 70368744177664) {room : Int} {picks : List Int} (hp : RdI H pv (picks.map iv)) :
    CW Try.prog 17 #[tv, .int .i64 room, pv] H (ReadyPost H ts room picks) := by
  refine CW_k (n := 27) if17 rfl ?_
  unfold C17
  obtain ⟨pa, pc, hpv, _⟩ := id hp
  simp only [List.length_map] at hpv
  simp -implicitDefEqProofs (maxDischargeDepth := 6) (maxSteps := 1000000) only [go_sem, ↓reduceIte, Nat.reduceLT, Nat.reduceLeDiff, Nat.reduceEqDiff, Nat.reduceAdd, Nat.reduceMul, Nat.reduceSub, Nat.reduceBEq, reduceCtorEq, Int.reduceEq, Int.reduceLT, Int.reduceLE, Int.reduceNeg, Int.reduceToNat, ]
  refine CW_mono _ (asked_W hw ht hN (room := room) (most := 0) hp) ?_
  rintro _ H1 ⟨rfl, hE1⟩
  by_cases h0 : askedP ts room picks 0 = 0
  · have hf := asked_ok h0
    simp -implicitDefEqProofs (maxDischargeDepth := 6) (maxSteps := 1000000) only [go_sem, ↓reduceIte, Nat.reduceLT, Nat.reduceLeDiff, Nat.reduceEqDiff, Nat.reduceAdd, Nat.reduceMul, Nat.reduceSub, Nat.reduceBEq, reduceCtorEq, Int.reduceEq, Int.reduceLT, Int.reduceLE, Int.reduceNeg, Int.reduceToNat, h0]
    refine CW_mono _ (begun_W hE1.wf (ht.of hw hE1) (room := room) (by have := hf.n; omega)) ?_
    rintro _ H2 ⟨r, M, rfl, h2, hE2, hno, _⟩
    have hpo := hf.pos
    simp -implicitDefEqProofs (maxDischargeDepth := 6) (maxSteps := 1000000) only [go_sem, ↓reduceIte, Nat.reduceLT, Nat.reduceLeDiff, Nat.reduceEqDiff, Nat.reduceAdd, Nat.reduceMul, Nat.reduceSub, Nat.reduceBEq, reduceCtorEq, Int.reduceEq, Int.reduceLT, Int.reduceLE, Int.reduceNeg, Int.reduceToNat, hpv, goInt]
    have hno' : ∀ b, b < H.next → M.own b = none := fun b hb => hno b (Nat.lt_of_lt_of_le hb hE1.le)
    have hpN := hp.noOwn hw (hE1.trans hE2) hno'
    rw [hpv] at hpN
    refine CW_mono _ (all_W h2 hf.okR (picks := picks) hpN hpo (most := picks.length) hf.p (by simp [S0])) ?_
    rintro _ H3 ⟨rfl, M3, h3, hF3⟩
    have hE3 := Frm.toExt (hE1.trans hE2) h3.wf hF3 hno'
    simp -implicitDefEqProofs (maxDischargeDepth := 6) (maxSteps := 1000000) only [go_sem, ↓reduceIte, Nat.reduceLT, Nat.reduceLeDiff, Nat.reduceEqDiff, Nat.reduceAdd, Nat.reduceMul, Nat.reduceSub, Nat.reduceBEq, reduceCtorEq, Int.reduceEq, Int.reduceLT, Int.reduceLE, Int.reduceNeg, Int.reduceToNat, ]
    have e : picks.length - (S0 ts room).trace.length = picks.length := by simp [S0]
    rw [e] at h3
    have ok3 := okR_run picks.length picks hf.okR
    refine CW_mono _ (ready_W h3 ok3.vs ok3.N) ?_
    rintro _ H4 ⟨v, rfl, hE4, hO⟩
    simp -implicitDefEqProofs (maxDischargeDepth := 6) (maxSteps := 1000000) only [go_sem, ↓reduceIte, Nat.reduceLT, Nat.reduceLeDiff, Nat.reduceEqDiff, Nat.reduceAdd, Nat.reduceMul, Nat.reduceSub, Nat.reduceBEq, reduceCtorEq, Int.reduceEq, Int.reduceLT, Int.reduceLE, Int.reduceNeg, Int.reduceToNat, ]
    refine ⟨hE3.trans hE4, v, by rw [h0], fun h => absurd h0 h, fun _ => hO.frame fun b x hb hg => ⟨Nat.le_trans hE3.le hb, hg⟩⟩
  · simp -implicitDefEqProofs (maxDischargeDepth := 6) (maxSteps := 1000000) only [go_sem, ↓reduceIte, Nat.reduceLT, Nat.reduceLeDiff, Nat.reduceEqDiff, Nat.reduceAdd, Nat.reduceMul, Nat.reduceSub, Nat.reduceBEq, reduceCtorEq, Int.reduceEq, Int.reduceLT, Int.reduceLE, Int.reduceNeg, Int.reduceToNat, h0]
    refine ⟨hE1, _, rfl, fun _ => rfl, fun h => absurd h h0⟩
structure RanAt (lo : Nat) (H : Heap) (S : Sx) (trv rgv ev qsv : Value) (qv : Nat → Value) : Prop where
  trace : OwnL (fun b => lo ≤ b) H 2 39 trv S.trace.length (trC S.trace)
  regs : OwnL (fun b => lo ≤ b) H 1 2 rgv 8 ((List.range 8).map fun j => iv (S.regs j))
  ends : OwnL (fun b => lo ≤ b) H 2 49 ev S.N ((List.range S.N).flatMap fun i => [iv (howS S i), iv (S.tk i).n])
  queues : OwnL (fun b => lo ≤ b) H 1 29 qsv 4 ((List.range 4).map qv)
  queue : ∀ j, j < 4 → OwnL (fun b => lo ≤ b) H 1 2 (qv j) (S.queues j).length ((S.queues j).map iv)
theorem appS_nil {H : Heap} {es ty bytes : Nat} {x : Value} {n : Nat} {news : List Value} (hl : lengthA x = some n) (hf : firstA H es n x = some news) (h0 : 0 < n) (hb : 4 * n * bytes + 4096 ≤ 2 ^ 47) (hb2 : n ≤ 2 ^ 47) :
    appS H ty es bytes none 0 0 x = some (.slice (some ⟨H.next, 0, none⟩) n openCap, H.alloc ⟨ty, es, true, news⟩) := by
  unfold appS
  have e1 : ¬ (4 * (0 + n) * bytes + 4096 > 2 ^ 47 || (0 + n > 2 ^ 47)) = true := by simp; omega
  simp only [hl, Option.bind_eq_bind, Option.bind_some, hf]
  rw [if_pos (show 0 ≠ openCap by unfold openCap; omega), if_neg (by omega), if_neg e1]
  simp [firstA]
theorem appS_nil0 {H : Heap} {es ty bytes : Nat} {a : Option Addr} {c : Nat} : appS H ty es bytes none 0 0 (.slice a 0 c) = some (.slice none 0 0, H) := by
  unfold appS
  have hf : firstA H es 0 (.slice a 0 c) = some [] := by cases a <;> simp [firstA]
  simp only [lengthA, Option.bind_eq_bind, Option.bind_some, hf]
  rw [if_pos (show 0 ≠ openCap by unfold openCap; omega), if_pos (by omega)]
  simp
@[go_sem] theorem ix_63 {a b c d : Value} {k : IntKind} {i : Int} : indexA Try.prog 63 (.agg #[a, b, c, d]) (.int k i) = (if 0 ≤ i ∧ i < (4 : Int) then #[a, b, c, d][i.toNat * 1]? else none) := by kernel_rfl
theorem firstA_own {p : Nat → Prop} {H : Heap} {es ty : Nat} {a : Option Addr} {n c : Nat} {cs : List Value} (h : OwnL p H es ty (.slice a n c) n cs) (h0 : 0 < n) : firstA H es n (.slice a n c) = some cs := by
  rcases h with ⟨h1, h2, h3⟩ | ⟨b, o, pre, h1, h2, h3, h4, h5, h6⟩
  · omega
  · simp only [Value.slice.injEq] at h1
    obtain ⟨rfl, _, rfl⟩ := h1
    show (if n = 0 then some [] else if openCap = 0 then none else H.loads ⟨b, o, none⟩ (n * es)) = some cs
    rw [if_neg (by omega), if_neg (by unfold openCap; omega), loads_eq, h4, Option.bind_some]
    rw [if_pos (by simp [h5, h6])]
    simp [← h5, ← h6]
end Go.Am.T
namespace Go.Am.T
open Go Go.Am Go.Proofs.Ythanhcpnhionaaa Go.Proofs
@[go_sem] theorem sliceR_full {b o : Nat} : sliceR 8 1 b o none none none = some (.slice (some ⟨b, o, none⟩) 8 8) := by simp [sliceR, boundA]
@[go_sem] theorem run_q4 {R : RunV} : ((runCells R).drop 10).take 4 = [R.queues 0, R.queues 1, R.queues 2, R.queues 3] := rfl
theorem appNil {p : Nat → Prop} {H : Heap} {es ty bytes : Nat} {a : Option Addr} {n c : Nat} {cs : List Value} (hw : WF H) (h : OwnL p H es ty (.slice a n c) n cs) (hb : 4 * n * bytes + 4096 ≤ 2 ^ 47) (hb2 : n ≤ 2 ^ 47) :
    ∃ v' H', appS H ty es bytes none 0 0 (.slice a n c) = some (v', H') ∧ Ext H H' ∧ OwnL (fun b => H.next ≤ b) H' es ty v' n cs := by
  by_cases h0 : n = 0
  · subst h0
    refine ⟨.slice none 0 0, H, appS_nil0, Ext.refl hw, .inl ⟨rfl, rfl, ?_⟩⟩
    have := h.len; exact List.eq_nil_of_length_eq_zero (by simpa using this)
  · refine ⟨_, _, appS_nil rfl (firstA_own h (by omega)) (by omega) hb hb2, (Ext.refl hw).alloc _, .inr ⟨H.next, 0, [], rfl, hw.1, Nat.le_refl _, get_alloc_eq hw.1, rfl, h.len⟩⟩
def regL (S : Sx) : List Value := (List.range 8).map fun j => iv (S.regs j)
theorem firstA_regs {H : Heap} {r : Nat} {M : Mem} {S : Sx} (h : H.get r = some (runB (rv M S))) : firstA H 1 8 (.slice (some ⟨r, 14, none⟩) 8 8) = some (regL S) := by
  show (if 8 = 0 then some [] else if 8 = 0 then none else H.loads ⟨r, 14, none⟩ (8 * 1)) = _
  rw [if_neg (by omega), if_neg (by omega), loads_eq, h]
  rfl
def outB (n : Nat) (trv rgv ev qs : Value) : Blk := ⟨33, 0, false, [nv n, trv, rgv, ev, qs]⟩
structure Out (H3 : Heap) (S : Sx) (bo : Nat) (trv rgv ev qs : Value) (k : Nat) (qv : Nat → Value) (i : Nat) (G : Heap) : Prop where
  ext : Ext H3 G
  ge : H3.next ≤ bo
  cell : G.get bo = some (outB S.trace.length trv rgv ev qs)
  regs : OwnL (fun b => H3.next ≤ b) G 1 2 rgv 8 (regL S)
  qs : OwnL (fun b => H3.next ≤ b) G 1 29 qs k ((List.range k).map qv)
  q : ∀ j, j < k → OwnL (fun b => H3.next ≤ b) G 1 2 (qv j) (S.queues j).length ((S.queues j).map iv)
  ends : OwnL (fun b => H3.next ≤ b) G 2 49 ev i ((List.range i).flatMap fun i => [iv (howS S i), iv (S.tk i).n])
theorem Out.of {H3 G G' : Heap} {S : Sx} {bo k i : Nat} {trv rgv ev qs : Value} {qv : Nat → Value} (h : Out H3 S bo trv rgv ev qs k qv i G) (e : Ext G G') : Out H3 S bo trv rgv ev qs k qv i G' :=
  ⟨h.ext.trans e, h.ge, e.of h.ext.wf h.cell, h.regs.frame fun b x hb hg => ⟨hb, e.of h.ext.wf hg⟩, h.qs.frame fun b x hb hg => ⟨hb, e.of h.ext.wf hg⟩, fun j hj => (h.q j hj).frame fun b x hb hg => ⟨hb, e.of h.ext.wf hg⟩,
   h.ends.frame fun b x hb hg => ⟨hb, e.of h.ext.wf hg⟩⟩
def RunPost (H : Heap) (ts : List (List Act)) (room : Int) (picks : List Int) (most : Int) (x : CR) (H' : Heap) : Prop :=
  Ext H H' ∧ (askedP ts room picks most ≠ 0 → x = .ret (.tuple #[.agg #[.int .i64 0, .slice none 0 0, .slice none 0 0, .slice none 0 0, .slice none 0 0], .int .i64 (askedP ts room picks most)])) ∧
    (askedP ts room picks most = 0 → ∃ trv rgv ev qsv qv, x = .ret (.tuple #[.agg #[nv (runM most.toNat (S0 ts room) picks).trace.length, trv, rgv, ev, qsv], .int .i64 0]) ∧ RanAt H.next H' (runM most.toNat (S0 ts room) picks) trv rgv ev qsv qv)
theorem Run_W {H : Heap} (hw : WF H) {tv pv : Value} {ts : List (List Act)} {av : Nat → Value} (ht : TasksAt H tv ts av) (hN : ts.length ≤ 70368744177664) {room most : Int} {picks : List Int} (hp : RdI H pv (picks.map iv)) :
    CW Try.prog 15 #[tv, .int .i64 room, pv, .int .i64 most] H (RunPost H ts room picks most) := by
  refine CW_k (n := 87) if15 rfl ?_
  unfold C15
  have hnb := hw.1
  have hE0 := (Ext.refl hw).alloc (⟨33, 0, false, [.int .i64 0, .slice none 0 0, .slice none 0 0, .slice none 0 0, .slice none 0 0]⟩ : Blk)
  simp -implicitDefEqProofs (maxDischargeDepth := 6) (maxSteps := 1000000) only [go_sem, ↓reduceIte, Nat.reduceLT, Nat.reduceLeDiff, Nat.reduceEqDiff, Nat.reduceAdd, Nat.reduceMul, Nat.reduceSub, Nat.reduceBEq, reduceCtorEq, Int.reduceEq, Int.reduceLT, Int.reduceLE, Int.reduceNeg, Int.reduceToNat, hnb]
  refine CW_mono _ (asked_W hE0.wf (ht.of hw hE0) hN (room := room) (most := most) (hp.of fun b x hb => hE0.of hw hb)) ?_
  rintro _ H1 ⟨rfl, hE1⟩
  have hc1 := hE1.of hE0.wf (get_alloc_eq hnb)
  have hnb1 := hE1.wf.1
  by_cases h0 : askedP ts room picks most = 0
  case neg =>
    simp -implicitDefEqProofs (maxDischargeDepth := 6) (maxSteps := 1000000) only [go_sem, ↓reduceIte, Nat.reduceLT, Nat.reduceLeDiff, Nat.reduceEqDiff, Nat.reduceAdd, Nat.reduceMul, Nat.reduceSub, Nat.reduceBEq, reduceCtorEq, Int.reduceEq, Int.reduceLT, Int.reduceLE, Int.reduceNeg, Int.reduceToNat, h0, hc1, hnb, loads_eq]
    refine ⟨?_, fun _ => rfl, fun h => absurd h h0⟩
    first | exact hE0.trans hE1 | exact (hE0.trans hE1).set (Nat.le_refl _) (hE1.wf.lt hc1) _
  have hf := asked_ok h0
  simp -implicitDefEqProofs (maxDischargeDepth := 6) (maxSteps := 1000000) only [go_sem, ↓reduceIte, Nat.reduceLT, Nat.reduceLeDiff, Nat.reduceEqDiff, Nat.reduceAdd, Nat.reduceMul, Nat.reduceSub, Nat.reduceBEq, reduceCtorEq, Int.reduceEq, Int.reduceLT, Int.reduceLE, Int.reduceNeg, Int.reduceToNat, h0]
  refine CW_mono _ (begun_W hE1.wf ((ht.of hw hE0).of hE0.wf hE1) (room := room) (by have := hf.n; omega)) ?_
  rintro _ H2 ⟨r, M, rfl, h2, hE2, hno, _⟩
  have hpo := hf.pos
  have hE02 := (hE0.trans hE1).trans hE2
  have hno' : ∀ b, b < H.next → M.own b = none := fun b hb => hno b (Nat.lt_of_lt_of_le hb (hE0.trans hE1).le)
  have hpN := hp.noOwn hw hE02 hno'
  have hmo : most = ((most.toNat : Nat) : Int) := by have := hf.m1; omega
  simp -implicitDefEqProofs (maxDischargeDepth := 6) (maxSteps := 1000000) only [go_sem, ↓reduceIte, Nat.reduceLT, Nat.reduceLeDiff, Nat.reduceEqDiff, Nat.reduceAdd, Nat.reduceMul, Nat.reduceSub, Nat.reduceBEq, reduceCtorEq, Int.reduceEq, Int.reduceLT, Int.reduceLE, Int.reduceNeg, Int.reduceToNat, ]
  have hall := all_W h2 hf.okR (picks := picks) hpN hpo (most := most.toNat) (by have := hf.m2; omega) (by simp [S0])
  rw [nv, ← hmo] at hall
  refine CW_mono _ hall ?_
  rintro _ H3 ⟨rfl, M3, h3, hF3⟩
  have hE3 := Frm.toExt hE02 h3.wf hF3 hno'
  have e : most.toNat - (S0 ts room).trace.length = most.toNat := by simp [S0]
  rw [e] at h3
  have ok3 := okR_run most.toNat picks hf.okR
  have hl3 := runM_len most.toNat (S := S0 ts room) picks
  have hNN := (runM_N most.toNat (S := S0 ts room) picks).1
  have hc3 : H3.get H.next = some ⟨33, 0, false, [.int .i64 0, .slice none 0 0, .slice none 0 0, .slice none 0 0, .slice none 0 0]⟩ := by
    have hl1 := hE1.wf.lt hc1
    rw [hF3.get H.next (Nat.lt_of_lt_of_le hl1 hE2.le) (hno _ hl1)]
    exact hE2.of hE1.wf hc1
  have hlo : ∀ b ro, M3.own b = some ro → H.next ≤ b ∧ b ≠ H.next := by
    intro b ro hb
    have hl1 := hE1.wf.lt hc1
    have hle := hE2.le
    have : ¬ b < H1.next := by
      intro hlt
      rw [hF3.own b (by omega), hno b hlt] at hb; cases hb
    omega
  generalize hS : runM most.toNat (S0 ts room) picks = S at *
  obtain ⟨tra, trc, htr⟩ := (h3.trace (by simp)).sl
  have hr3 := h3.run
  have hrl := h3.lt r (by rw [h3.ro]; simp)
  have hnb3 := h3.wf.1
  simp -implicitDefEqProofs (maxDischargeDepth := 6) (maxSteps := 1000000) only [go_sem, ↓reduceIte, Nat.reduceLT, Nat.reduceLeDiff, Nat.reduceEqDiff, Nat.reduceAdd, Nat.reduceMul, Nat.reduceSub, Nat.reduceBEq, reduceCtorEq, Int.reduceEq, Int.reduceLT, Int.reduceLE, Int.reduceNeg, Int.reduceToNat, hr3, htr, hrl, hnb3, goInt]
  refine Wk_w_c rfl rfl ?_
  simp -implicitDefEqProofs (maxDischargeDepth := 6) (maxSteps := 1000000) only [go_sem, ↓reduceIte, Nat.reduceLT, Nat.reduceLeDiff, Nat.reduceEqDiff, Nat.reduceAdd, Nat.reduceMul, Nat.reduceSub, Nat.reduceBEq, reduceCtorEq, Int.reduceEq, Int.reduceLT, Int.reduceLE, Int.reduceNeg, Int.reduceToNat, hr3, htr, hrl, hnb3, goInt]
  refine cK_vh (appS_nil (n := 8) rfl (firstA_regs (H := bump H3 18) hr3) (by omega) (by omega) (by omega)) ?_
  simp -implicitDefEqProofs (maxDischargeDepth := 6) (maxSteps := 1000000) only [go_sem, ↓reduceIte, Nat.reduceLT, Nat.reduceLeDiff, Nat.reduceEqDiff, Nat.reduceAdd, Nat.reduceMul, Nat.reduceSub, Nat.reduceBEq, reduceCtorEq, Int.reduceEq, Int.reduceLT, Int.reduceLE, Int.reduceNeg, Int.reduceToNat, hr3, htr, hrl, hnb3, goInt]
  refine cK_some ?_ ?_
  · simp -implicitDefEqProofs (maxDischargeDepth := 6) (maxSteps := 1000000) only [go_sem, ↓reduceIte, Nat.reduceLT, Nat.reduceLeDiff, Nat.reduceEqDiff, Nat.reduceAdd, Nat.reduceMul, Nat.reduceSub, Nat.reduceBEq, reduceCtorEq, Int.reduceEq, Int.reduceLT, Int.reduceLE, Int.reduceNeg, Int.reduceToNat, reK, hr3, htr, hrl, hnb3, goInt]
  simp -implicitDefEqProofs (maxDischargeDepth := 6) (maxSteps := 1000000) only [go_sem, ↓reduceIte, Nat.reduceLT, Nat.reduceLeDiff, Nat.reduceEqDiff, Nat.reduceAdd, Nat.reduceMul, Nat.reduceSub, Nat.reduceBEq, reduceCtorEq, Int.reduceEq, Int.reduceLT, Int.reduceLE, Int.reduceNeg, Int.reduceToNat, hr3, htr, hrl, hnb3, goInt]
  refine Wk_w_c rfl rfl ?_
  simp -implicitDefEqProofs (maxDischargeDepth := 6) (maxSteps := 1000000) only [go_sem, ↓reduceIte, Nat.reduceLT, Nat.reduceLeDiff, Nat.reduceEqDiff, Nat.reduceAdd, Nat.reduceMul, Nat.reduceSub, Nat.reduceBEq, reduceCtorEq, Int.reduceEq, Int.reduceLT, Int.reduceLE, Int.reduceNeg, Int.reduceToNat, hr3, htr, hrl, hnb3, goInt]
  have h10 : (10 : Nat) + 4 ≤ 24 := by omega
  simp -implicitDefEqProofs (maxDischargeDepth := 6) (maxSteps := 1000000) only [go_sem, ↓reduceIte, Nat.reduceLT, Nat.reduceLeDiff, Nat.reduceEqDiff, Nat.reduceAdd, Nat.reduceMul, Nat.reduceSub, Nat.reduceBEq, reduceCtorEq, Int.reduceEq, Int.reduceLT, Int.reduceLE, Int.reduceNeg, Int.reduceToNat, hr3, htr, hrl, hnb3, goInt, loads_eq, h10]
  have hq : ∀ j, ∃ a c, j < 4 → M3.qv j = .slice a (S.queues j).length c := by
    intro j
    by_cases hj : j < 4
    · obtain ⟨a, c, e⟩ := (h3.queue j hj (by simp)).sl; exact ⟨a, c, fun _ => e⟩
    · exact ⟨none, 0, fun h => absurd h hj⟩
  refine Wk_loopF (fun m f G => ∃ k qs qv, m = 4 - k ∧ k ≤ 4 ∧ f.get 8 = some (.pointer (some ⟨H.next, 0, none⟩)) ∧ f.get 11 = some (.pointer (some ⟨r, 0, none⟩)) ∧ f.get 12 = some (.pointer (some ⟨H3.next + 15, 0, none⟩)) ∧
    f.get 51 = some (.agg #[M3.qv 0, M3.qv 1, M3.qv 2, M3.qv 3]) ∧ f.get 52 = some (nv k) ∧ Out H3 S (H3.next + 15) (.slice tra S.trace.length trc) (.slice (some ⟨H3.next + 18, 0, none⟩) 8 openCap) (.slice none 0 0) qs k qv 0 G) 4 ?_ ?_
  · have hE4 := ((Ext.bump (Ext.refl h3.wf) 18).alloc (⟨2, 1, true, regL S⟩ : Blk)).set (b := H3.next + 15) (by omega) (by simp only [next_alloc, next_bump]; omega) (outB S.trace.length (.slice tra S.trace.length trc) (.slice (some ⟨H3.next + 18, 0, none⟩) 8 openCap) (.slice none 0 0) (.slice none 0 0))
    refine ⟨0, .slice none 0 0, fun _ => .slice none 0 0, by omega, by omega, ?_, ?_, ?_, ?_, ?_, hE4, by omega, get_set_eq (by omega), ?_, .inl ⟨rfl, rfl, rfl⟩, fun j hj => absurd hj (by omega), .inl ⟨rfl, rfl, rfl⟩⟩
    rotate_left 5
    · refine .inr ⟨H3.next + 18, 0, [], rfl, by omega, by omega, ?_, rfl, rfl⟩
      rw [get_set_ne (by omega), get_alloc_at (by simp only [next_bump]; omega) (by simp only [next_bump])]
      rfl
    all_goals simp -implicitDefEqProofs (maxDischargeDepth := 6) (maxSteps := 1000000) only [go_sem, ↓reduceIte, Nat.reduceLT, Nat.reduceLeDiff, Nat.reduceEqDiff, Nat.reduceAdd, Nat.reduceMul, Nat.reduceSub, Nat.reduceBEq, reduceCtorEq, Int.reduceEq, Int.reduceLT, Int.reduceLE, Int.reduceNeg, Int.reduceToNat, nv]
    rfl
  rintro m f G ⟨k, qs, qv, rfl, hk, f8, f11, f12, f51, f52, hO⟩
  unfold L15_1
  by_cases hlt : k < 4
  · have hltZ : (k : Int) < 4 := by omega
    have hk0 : (0 : Int) ≤ (k : Int) := by omega
    have hw1 : IntKind.i64.wrap ((k : Int) + 1) = ((k + 1 : Nat) : Int) := IntWalk.i64_in _ (by omega)
    have hix : (#[M3.qv 0, M3.qv 1, M3.qv 2, M3.qv 3] : Array Value)[k]? = some (M3.qv k) := by
      match k, hlt with | 0, _ | 1, _ | 2, _ | 3, _ => rfl
    obtain ⟨qa, qc, hqk⟩ := hq k
    have hqk := hqk hlt
    have hcell := hO.cell
    have hnbG := hO.ext.wf.1
    obtain ⟨sa, sc, rfl⟩ := hO.qs.sl
    simp -implicitDefEqProofs (maxDischargeDepth := 6) (maxSteps := 1000000) only [go_sem, ↓reduceIte, Nat.reduceLT, Nat.reduceLeDiff, Nat.reduceEqDiff, Nat.reduceAdd, Nat.reduceMul, Nat.reduceSub, Nat.reduceBEq, reduceCtorEq, Int.reduceEq, Int.reduceLT, Int.reduceLE, Int.reduceNeg, Int.reduceToNat, f8, f11, f12, f51, f52, nv, hltZ, hk0, hix, hqk, hcell, outB]
    refine Wk_w_c rfl rfl ?_
    simp -implicitDefEqProofs (maxDischargeDepth := 6) (maxSteps := 1000000) only [go_sem, ↓reduceIte, Nat.reduceLT, Nat.reduceLeDiff, Nat.reduceEqDiff, Nat.reduceAdd, Nat.reduceMul, Nat.reduceSub, Nat.reduceBEq, reduceCtorEq, Int.reduceEq, Int.reduceLT, Int.reduceLE, Int.reduceNeg, Int.reduceToNat, f8, f11, f12, f51, f52, nv, hltZ, hk0, hix, hqk, hcell, outB]
    have hOq := h3.queue k hlt (by simp)
    rw [hqk] at hOq
    have hEb := Ext.bump (Ext.refl hO.ext.wf) 9
    have hqb := ok3.qb k
    have hm2 := hf.m2
    have h30 : (S0 ts room).trace.length = 0 := rfl
    obtain ⟨v', G1, ha1, hE1', hv'⟩ := appNil (bytes := 8) hEb.wf (hOq.frame (p' := fun b => M3.own b = some (.queue k)) fun b x hb hg => ⟨hb, (hO.ext.trans hEb).of h3.wf hg⟩) (by omega) (by omega)
    refine cK_vh ha1 ?_
    obtain ⟨va, vc, rfl⟩ := hv'.sl
    have hO1 := hO.of (hEb.trans hE1')
    have hcell1 := hO1.cell
    have hnb1' := hO1.ext.wf.1
    simp -implicitDefEqProofs (maxDischargeDepth := 6) (maxSteps := 1000000) only [go_sem, ↓reduceIte, Nat.reduceLT, Nat.reduceLeDiff, Nat.reduceEqDiff, Nat.reduceAdd, Nat.reduceMul, Nat.reduceSub, Nat.reduceBEq, reduceCtorEq, Int.reduceEq, Int.reduceLT, Int.reduceLE, Int.reduceNeg, Int.reduceToNat, f8, f11, f12]
    refine cK_some ?_ ?_
    · simp -implicitDefEqProofs (maxDischargeDepth := 6) (maxSteps := 1000000) only [go_sem, ↓reduceIte, Nat.reduceLT, Nat.reduceLeDiff, Nat.reduceEqDiff, Nat.reduceAdd, Nat.reduceMul, Nat.reduceSub, Nat.reduceBEq, reduceCtorEq, Int.reduceEq, Int.reduceLT, Int.reduceLE, Int.reduceNeg, Int.reduceToNat, reK, f8, f11, f12, hcell1, outB]
    simp -implicitDefEqProofs (maxDischargeDepth := 6) (maxSteps := 1000000) only [go_sem, ↓reduceIte, Nat.reduceLT, Nat.reduceLeDiff, Nat.reduceEqDiff, Nat.reduceAdd, Nat.reduceMul, Nat.reduceSub, Nat.reduceBEq, reduceCtorEq, Int.reduceEq, Int.reduceLT, Int.reduceLE, Int.reduceNeg, Int.reduceToNat, f8, f11, f12, hcell1, outB]
    refine Wk_w_c rfl rfl ?_
    simp -implicitDefEqProofs (maxDischargeDepth := 6) (maxSteps := 1000000) only [go_sem, ↓reduceIte, Nat.reduceLT, Nat.reduceLeDiff, Nat.reduceEqDiff, Nat.reduceAdd, Nat.reduceMul, Nat.reduceSub, Nat.reduceBEq, reduceCtorEq, Int.reduceEq, Int.reduceLT, Int.reduceLE, Int.reduceNeg, Int.reduceToNat, f8, f11, f12, hcell1, outB]
    have hle1 : G.next + 9 ≤ G1.next := hE1'.le
    have hE2' := (hEb.trans hE1').set (b := G.next + 4) (by omega) (by omega) (⟨29, 0, false, [.slice va (S.queues k).length vc]⟩ : Blk)
    have hO2 := hO.of hE2'
    have hv2 : OwnL (fun b => H3.next ≤ b) (G1.set (G.next + 4) ⟨29, 0, false, [.slice va (S.queues k).length vc]⟩) 1 2 (.slice va (S.queues k).length vc) (S.queues k).length ((S.queues k).map iv) := by
      refine hv'.frame fun b x hb hg => ⟨?_, ?_⟩
      · have := hO.ext.le; have : G.next + 9 ≤ b := hb; omega
      · have : G.next + 9 ≤ b := hb
        rw [get_set_ne (by omega)]; exact hg
    obtain ⟨G3, ha3, hE3', hqs3, hn3, hk3⟩ := appO (bytes := 24) (nb := G.next + 4) (x := ⟨29, 0, false, [.slice va (S.queues k).length vc]⟩) (vs := [.slice va (S.queues k).length vc]) hO2.ext hO2.qs (get_set_eq (by omega)) rfl rfl (by omega) rfl (by omega) (by omega)
    refine cK_vh ha3 ?_
    have hcell3 := hk3 _ _ hO2.cell (.inl rfl)
    have hnb3' := hE3'.wf.1
    have hbo : base0 ≤ H3.next + 15 := by omega
    simp only [next_set] at ha3 hqs3 hn3
    simp -implicitDefEqProofs (maxDischargeDepth := 6) (maxSteps := 1000000) only [go_sem, ↓reduceIte, Nat.reduceLT, Nat.reduceLeDiff, Nat.reduceEqDiff, Nat.reduceAdd, Nat.reduceMul, Nat.reduceSub, Nat.reduceBEq, reduceCtorEq, Int.reduceEq, Int.reduceLT, Int.reduceLE, Int.reduceNeg, Int.reduceToNat, f8, f11, f12, hcell3, outB]
    refine Wk_w_c rfl rfl ?_
    simp -implicitDefEqProofs (maxDischargeDepth := 6) (maxSteps := 1000000) only [go_sem, ↓reduceIte, Nat.reduceLT, Nat.reduceLeDiff, Nat.reduceEqDiff, Nat.reduceAdd, Nat.reduceMul, Nat.reduceSub, Nat.reduceBEq, reduceCtorEq, Int.reduceEq, Int.reduceLT, Int.reduceLE, Int.reduceNeg, Int.reduceToNat, f8, f11, f12, f52, nv, hcell3, outB, hbo, hw1]
    have hE4' := hE3'.set (b := H3.next + 15) (by omega) (hE3'.wf.lt hcell3) (outB S.trace.length (.slice tra S.trace.length trc) (.slice (some ⟨H3.next + 18, 0, none⟩) 8 openCap) (.slice none 0 0) (.slice (some ⟨G1.next, 0, none⟩) (k + 1) openCap))
    have keep : ∀ {es ty n : Nat} {v : Value} {cs : List Value}, ty ≠ 29 → ty ≠ 33 → OwnL (fun b => H3.next ≤ b) (G1.set (G.next + 4) ⟨29, 0, false, [.slice va (S.queues k).length vc]⟩) es ty v n cs →
        OwnL (fun b => H3.next ≤ b) (G3.set (H3.next + 15) (outB S.trace.length (.slice tra S.trace.length trc) (.slice (some ⟨H3.next + 18, 0, none⟩) 8 openCap) (.slice none 0 0) (.slice (some ⟨G1.next, 0, none⟩) (k + 1) openCap))) es ty v n cs := by
      intro es ty n v cs h29 h33 ho
      refine ho.frameO fun b x hb hg hx => ⟨hb, ?_⟩
      have hg3 := hk3 _ _ hg (.inr (by rw [hx.2]; exact h29))
      rw [get_set_ne]
      · exact hg3
      · intro e; subst e; rw [hcell3] at hg3; cases hg3; cases hx.1
    refine ⟨4 - (k + 1), by omega, k + 1, .slice (some ⟨G1.next, 0, none⟩) (k + 1) openCap, upd qv k (.slice va (S.queues k).length vc), rfl, by omega, ?_, ?_, ?_, ?_, ?_, hE4', by omega, get_set_eq hbo, keep (by omega) (by omega) hO2.regs, ?_, ?_, keep (by omega) (by omega) hO2.ends⟩
    · simp only [Tr.get_put, Nat.reduceEqDiff, ↓reduceIte, f8]
    · simp only [Tr.get_put, Nat.reduceEqDiff, ↓reduceIte, f11]
    · simp only [Tr.get_put, Nat.reduceEqDiff, ↓reduceIte, f12]
    · simp only [Tr.get_put, Nat.reduceEqDiff, ↓reduceIte, f51]
    · simp only [Tr.get_put, Nat.reduceEqDiff, ↓reduceIte, nv]
    · rw [List.range_succ, List.map_append]
      have e1 : (List.range k).map (upd qv k (.slice va (S.queues k).length vc)) = (List.range k).map qv := by
        apply List.map_congr_left
        intro j hj
        exact upd_ne (by have := List.mem_range.1 hj; omega)
      rw [e1]
      simp only [List.map_cons, List.map_nil, upd_same]
      refine hqs3.frameO fun b x hb hg hx => ⟨hb, ?_⟩
      rw [get_set_ne]
      · exact hg
      · intro e; subst e; rw [hcell3] at hg; cases hg; cases hx.1
    · intro j hj
      by_cases e : j = k
      · subst e; rw [upd_same]; exact keep (by omega) (by omega) hv2
      · rw [upd_ne e]; exact keep (by omega) (by omega) (hO2.q j (by omega))
  · have hltZ : ¬ (k : Int) < 4 := by omega
    obtain rfl : k = 4 := by omega
    obtain ⟨tta, ttc, httv, _⟩ := h3.arr
    have hrG := hO.ext.of h3.wf hr3
    simp -implicitDefEqProofs (maxDischargeDepth := 6) (maxSteps := 1000000) only [go_sem, ↓reduceIte, Nat.reduceLT, Nat.reduceLeDiff, Nat.reduceEqDiff, Nat.reduceAdd, Nat.reduceMul, Nat.reduceSub, Nat.reduceBEq, reduceCtorEq, Int.reduceEq, Int.reduceLT, Int.reduceLE, Int.reduceNeg, Int.reduceToNat, f8, f11, f12, f51, f52, nv, hltZ, hrG, httv, goInt]
    refine Wk_loopF (fun m f G => ∃ i ev, m = S.N - i ∧ i ≤ S.N ∧ f.get 8 = some (.pointer (some ⟨H.next, 0, none⟩)) ∧ f.get 11 = some (.pointer (some ⟨r, 0, none⟩)) ∧ f.get 12 = some (.pointer (some ⟨H3.next + 15, 0, none⟩)) ∧
      f.get 66 = some (.slice tta S.N ttc) ∧ f.get 67 = some (nv S.N) ∧ f.get 68 = some (nv i) ∧ Out H3 S (H3.next + 15) (.slice tra S.trace.length trc) (.slice (some ⟨H3.next + 18, 0, none⟩) 8 openCap) ev qs 4 qv i G) S.N ?_ ?_
    · refine ⟨0, .slice none 0 0, by omega, by omega, ?_, ?_, ?_, ?_, ?_, ?_, hO⟩
      all_goals simp -implicitDefEqProofs (maxDischargeDepth := 6) (maxSteps := 1000000) only [go_sem, ↓reduceIte, Nat.reduceLT, Nat.reduceLeDiff, Nat.reduceEqDiff, Nat.reduceAdd, Nat.reduceMul, Nat.reduceSub, Nat.reduceBEq, reduceCtorEq, Int.reduceEq, Int.reduceLT, Int.reduceLE, Int.reduceNeg, Int.reduceToNat, nv, f8, f11, f12]
      rfl
    clear hO hrG f8 f11 f12 f51 f52
    rintro m f G ⟨i, ev, rfl, hi, f8, f11, f12, f66, f67, f68, hO⟩
    unfold L15_2
    by_cases hlt : i < S.N
    · have hltZ : (i : Int) < (S.N : Int) := by omega
      have hi0 : (0 : Int) ≤ (i : Int) := by omega
      have hw1 : IntKind.i64.wrap ((i : Int) + 1) = ((i + 1 : Nat) : Int) := IntWalk.i64_in _ (by have : S.N ≤ 65536 := ok3.N; omega)
      obtain ⟨tb, to, tc, tx, htv2, htc, htx, htxi⟩ := h3.ptr hlt
      rw [httv] at htv2
      simp only [Value.slice.injEq, true_and] at htv2
      obtain ⟨rfl, rfl⟩ := htv2
      have htxG := hO.ext.of h3.wf htx
      have hcell := hO.cell
      have hnbG := hO.ext.wf.1
      obtain ⟨ea, ec, rfl⟩ := hO.ends.sl
      simp -implicitDefEqProofs (maxDischargeDepth := 6) (maxSteps := 1000000) only [go_sem, ↓reduceIte, Nat.reduceLT, Nat.reduceLeDiff, Nat.reduceEqDiff, Nat.reduceAdd, Nat.reduceMul, Nat.reduceSub, Nat.reduceBEq, reduceCtorEq, Int.reduceEq, Int.reduceLT, Int.reduceLE, Int.reduceNeg, Int.reduceToNat, f8, f11, f12, f66, f67, f68, nv, hltZ, hi0, htc, htxG, htxi, hcell, outB]
      refine Wk_w_call rfl ?_
      simp -implicitDefEqProofs (maxDischargeDepth := 6) (maxSteps := 1000000) only [go_sem, ↓reduceIte, Nat.reduceLT, Nat.reduceLeDiff, Nat.reduceEqDiff, Nat.reduceAdd, Nat.reduceMul, Nat.reduceSub, Nat.reduceBEq, reduceCtorEq, Int.reduceEq, Int.reduceLT, Int.reduceLE, Int.reduceNeg, Int.reduceToNat, f8, f11, f12, f66, f67, f68, nv]
      have hEb := Ext.bump (Ext.refl hO.ext.wf) 15
      refine CW_mono _ (how_R (h3.ext (hO.ext.trans hEb)) ok3.vs hlt) ?_
      rintro _ G1 ⟨rfl, hE1'⟩
      have hO1 := hO.of (hEb.trans hE1')
      have hcell1 := hO1.cell
      have hnb1' := hO1.ext.wf.1
      simp -implicitDefEqProofs (maxDischargeDepth := 6) (maxSteps := 1000000) only [go_sem, ↓reduceIte, Nat.reduceLT, Nat.reduceLeDiff, Nat.reduceEqDiff, Nat.reduceAdd, Nat.reduceMul, Nat.reduceSub, Nat.reduceBEq, reduceCtorEq, Int.reduceEq, Int.reduceLT, Int.reduceLE, Int.reduceNeg, Int.reduceToNat, f8, f11, f12]
      refine cK_some ?_ ?_
      · simp -implicitDefEqProofs (maxDischargeDepth := 6) (maxSteps := 1000000) only [go_sem, ↓reduceIte, Nat.reduceLT, Nat.reduceLeDiff, Nat.reduceEqDiff, Nat.reduceAdd, Nat.reduceMul, Nat.reduceSub, Nat.reduceBEq, reduceCtorEq, Int.reduceEq, Int.reduceLT, Int.reduceLE, Int.reduceNeg, Int.reduceToNat, reK, f8, f11, f12, hcell1, outB]
      have htk1 := hO1.ext.of h3.wf (h3.task i hlt)
      have htkb := (hO.ext.trans hEb).of h3.wf (h3.task i hlt)
      simp -implicitDefEqProofs (maxDischargeDepth := 6) (maxSteps := 1000000) only [go_sem, ↓reduceIte, Nat.reduceLT, Nat.reduceLeDiff, Nat.reduceEqDiff, Nat.reduceAdd, Nat.reduceMul, Nat.reduceSub, Nat.reduceBEq, reduceCtorEq, Int.reduceEq, Int.reduceLT, Int.reduceLE, Int.reduceNeg, Int.reduceToNat, f8, f11, f12, hcell1, outB, htk1]
      refine wrK_some ?_ ?_
      · simp -implicitDefEqProofs (maxDischargeDepth := 6) (maxSteps := 1000000) only [go_sem, ↓reduceIte, Nat.reduceLT, Nat.reduceLeDiff, Nat.reduceEqDiff, Nat.reduceAdd, Nat.reduceMul, Nat.reduceSub, Nat.reduceBEq, reduceCtorEq, Int.reduceEq, Int.reduceLT, Int.reduceLE, Int.reduceNeg, Int.reduceToNat, hsK, f8, f11, f12, htkb]
      simp -implicitDefEqProofs (maxDischargeDepth := 6) (maxSteps := 1000000) only [go_sem, ↓reduceIte, Nat.reduceLT, Nat.reduceLeDiff, Nat.reduceEqDiff, Nat.reduceAdd, Nat.reduceMul, Nat.reduceSub, Nat.reduceBEq, reduceCtorEq, Int.reduceEq, Int.reduceLT, Int.reduceLE, Int.reduceNeg, Int.reduceToNat, f8, f11, f12, hcell1, outB, htk1]
      refine Wk_w_c rfl rfl ?_
      simp -implicitDefEqProofs (maxDischargeDepth := 6) (maxSteps := 1000000) only [go_sem, ↓reduceIte, Nat.reduceLT, Nat.reduceLeDiff, Nat.reduceEqDiff, Nat.reduceAdd, Nat.reduceMul, Nat.reduceSub, Nat.reduceBEq, reduceCtorEq, Int.reduceEq, Int.reduceLT, Int.reduceLE, Int.reduceNeg, Int.reduceToNat, f8, f11, f12, hcell1, outB]
      have hle1 : G.next + 15 ≤ G1.next := hE1'.le
      have hE2' := (hEb.trans hE1').set (b := G.next + 10) (by omega) (by omega) (⟨49, 0, false, [iv (howS S i), iv (S.tk i).n]⟩ : Blk)
      have hO2 := hO.of hE2'
      have hN3 := ok3.N
      obtain ⟨G3, ha3, hE3', hes3, hn3, hk3⟩ := appO (bytes := 16) (nb := G.next + 10) (x := ⟨49, 0, false, [iv (howS S i), iv (S.tk i).n]⟩) (vs := [iv (howS S i), iv (S.tk i).n]) hO2.ext hO2.ends (get_set_eq (by omega)) rfl rfl (by omega) rfl (by omega) (by omega)
      refine cK_vh ha3 ?_
      have hcell3 := hk3 _ _ hO2.cell (.inl rfl)
      have hbo : base0 ≤ H3.next + 15 := by omega
      simp only [next_set] at ha3 hes3 hn3
      simp -implicitDefEqProofs (maxDischargeDepth := 6) (maxSteps := 1000000) only [go_sem, ↓reduceIte, Nat.reduceLT, Nat.reduceLeDiff, Nat.reduceEqDiff, Nat.reduceAdd, Nat.reduceMul, Nat.reduceSub, Nat.reduceBEq, reduceCtorEq, Int.reduceEq, Int.reduceLT, Int.reduceLE, Int.reduceNeg, Int.reduceToNat, f8, f11, f12, hcell3, outB]
      refine Wk_w_c rfl rfl ?_
      simp -implicitDefEqProofs (maxDischargeDepth := 6) (maxSteps := 1000000) only [go_sem, ↓reduceIte, Nat.reduceLT, Nat.reduceLeDiff, Nat.reduceEqDiff, Nat.reduceAdd, Nat.reduceMul, Nat.reduceSub, Nat.reduceBEq, reduceCtorEq, Int.reduceEq, Int.reduceLT, Int.reduceLE, Int.reduceNeg, Int.reduceToNat, f8, f11, f12, f68, nv, hcell3, outB, hbo, hw1]
      have hE4' := hE3'.set (b := H3.next + 15) (by omega) (hE3'.wf.lt hcell3) (outB S.trace.length (.slice tra S.trace.length trc) (.slice (some ⟨H3.next + 18, 0, none⟩) 8 openCap) (.slice (some ⟨G1.next, 0, none⟩) (i + 1) openCap) qs)
      have keep : ∀ {es ty n : Nat} {v : Value} {cs : List Value}, ty ≠ 49 → ty ≠ 33 → OwnL (fun b => H3.next ≤ b) (G1.set (G.next + 10) ⟨49, 0, false, [iv (howS S i), iv (S.tk i).n]⟩) es ty v n cs →
          OwnL (fun b => H3.next ≤ b) (G3.set (H3.next + 15) (outB S.trace.length (.slice tra S.trace.length trc) (.slice (some ⟨H3.next + 18, 0, none⟩) 8 openCap) (.slice (some ⟨G1.next, 0, none⟩) (i + 1) openCap) qs)) es ty v n cs := by
        intro es ty n v cs h29 h33 ho
        refine ho.frameO fun b x hb hg hx => ⟨hb, ?_⟩
        have hg3 := hk3 _ _ hg (.inr (by rw [hx.2]; exact h29))
        rw [get_set_ne]
        · exact hg3
        · intro e; subst e; rw [hcell3] at hg3; cases hg3; cases hx.1
      refine ⟨S.N - (i + 1), by omega, i + 1, .slice (some ⟨G1.next, 0, none⟩) (i + 1) openCap, rfl, by omega, ?_, ?_, ?_, ?_, ?_, ?_, hE4', by omega, get_set_eq hbo, keep (by omega) (by omega) hO2.regs, keep (by omega) (by omega) hO2.qs, fun j hj => keep (by omega) (by omega) (hO2.q j hj), ?_⟩
      · simp only [Tr.get_put, Nat.reduceEqDiff, ↓reduceIte, f8]
      · simp only [Tr.get_put, Nat.reduceEqDiff, ↓reduceIte, f11]
      · simp only [Tr.get_put, Nat.reduceEqDiff, ↓reduceIte, f12]
      · simp only [Tr.get_put, Nat.reduceEqDiff, ↓reduceIte, f66]
      · simp only [Tr.get_put, Nat.reduceEqDiff, ↓reduceIte, f67, nv]
      · simp only [Tr.get_put, Nat.reduceEqDiff, ↓reduceIte, nv]
      · rw [List.range_succ, List.flatMap_append]
        simp only [List.flatMap_cons, List.flatMap_nil, List.append_nil]
        refine hes3.frameO fun b x hb hg hx => ⟨hb, ?_⟩
        rw [get_set_ne]
        · exact hg
        · intro e; subst e; rw [hcell3] at hg; cases hg; cases hx.1
    · have hltZ : ¬ (i : Int) < (S.N : Int) := by omega
      obtain rfl : i = S.N := by omega
      have hcell := hO.cell
      have hnbG := hO.ext.wf.1
      have hcG := hO.ext.of h3.wf hc3
      obtain ⟨ea, ec, rfl⟩ := hO.ends.sl
      obtain ⟨sa, sc, rfl⟩ := hO.qs.sl
      simp -implicitDefEqProofs (maxDischargeDepth := 6) (maxSteps := 1000000) only [go_sem, ↓reduceIte, Nat.reduceLT, Nat.reduceLeDiff, Nat.reduceEqDiff, Nat.reduceAdd, Nat.reduceMul, Nat.reduceSub, Nat.reduceBEq, reduceCtorEq, Int.reduceEq, Int.reduceLT, Int.reduceLE, Int.reduceNeg, Int.reduceToNat, f8, f11, f12, f66, f67, f68, nv, hltZ, hcell, outB, loads_eq, hcG, hnb]
      have hltF := (hO.ext.wf.lt hcG)
      have hltH3 := h3.wf.lt hc3
      have hEf := (hE3.trans hO.ext).set (b := H.next) (Nat.le_refl _) hltF (outB S.trace.length (.slice tra S.trace.length trc) (.slice (some ⟨H3.next + 18, 0, none⟩) 8 openCap) (.slice ea S.N ec) (.slice sa 4 sc))
      have keep : ∀ {es ty n : Nat} {v : Value} {cs : List Value}, OwnL (fun b => H3.next ≤ b) G es ty v n cs →
          OwnL (fun b => H.next ≤ b) (G.set H.next (outB S.trace.length (.slice tra S.trace.length trc) (.slice (some ⟨H3.next + 18, 0, none⟩) 8 openCap) (.slice ea S.N ec) (.slice sa 4 sc))) es ty v n cs := by
        intro es ty n v cs ho
        refine ho.frame fun b x hb hg => ⟨?_, ?_⟩
        · have hb : H3.next ≤ b := hb
          show H.next ≤ b
          omega
        · have hb : H3.next ≤ b := hb
          rw [get_set_ne (by omega)]; exact hg
      refine ⟨hEf, fun h => absurd h0 h, fun _ => ?_⟩
      rw [hS]
      refine ⟨_, _, _, _, qv, rfl, ?_, keep hO.regs, keep hO.ends, keep hO.qs, fun j hj => keep (hO.q j hj)⟩
      have hT := h3.trace (by simp)
      rw [htr] at hT
      refine hT.frame fun b x hb hg => ⟨(hlo b _ hb).1, ?_⟩
      rw [get_set_ne (hlo b _ hb).2]
      exact hO.ext.of h3.wf hg
end Go.Am.T
namespace Go.Am.T
open Go Go.Am Go.Proofs.Ythanhcpnhionaaa Go.Proofs Go.RowKit Go.ChangeShapes
structure InInt (W : World) (v : Value) (o : Option Ent) (i : Nat) (pv : Value) (zs : List Int) : Prop where
  ok : ∀ e, o = some e → ∀ L, EntOk W (inB L) e
  vr : ∀ L : InL, L[i]? = some o → VR (inB L) pv v
  rd : ∀ L : InL, L.length ≤ base0 → L[i]? = some o → RdI (inH L) pv (zs.map iv)
  wf : ∀ z ∈ zs, -9223372036854775808 ≤ z ∧ z ≤ 9223372036854775807
  sl : ∃ a c, pv = .slice a zs.length c ∧ zs.length ≤ c ∧ c < openCap
theorem LR_ints {β : Ren} (zs : List Int) : LR β (zs.map iv) (zs.map iv) := by
  refine ⟨rfl, fun i u u' hu hu' => ?_⟩
  rw [hu] at hu'; cases hu'
  rw [List.getElem?_map] at hu
  cases hz : zs[i]? with
  | none => rw [hz] at hu; cases hu
  | some z => rw [hz] at hu; cases hu; exact .int _ _
theorem wf_i64 {n : Int} (h : (Lit.int .i64 n).wf = true) : -9223372036854775808 ≤ n ∧ n ≤ 9223372036854775807 := by
  have h1 : IntKind.i64.min = -9223372036854775808 := rfl
  have h2 : IntKind.i64.max = 9223372036854775807 := rfl
  unfold Lit.wf at h
  simp only [h1, h2, Bool.and_eq_true, decide_eq_true_eq] at h
  exact h
theorem open_in {Hd : Type} {enc : TypeId × Value → Hd} {P : Program} {t e : TypeId} {W : World} {sp : Nat → Bool} {held : Bool} {v : Value} {d : DataW Hd} {ps : List MemPlace} (ht : P.underlying t = some (.slice e)) (he : P.underlying e = some (.int .i64)) (hc : P.cellsOf e = 1)
    (hone : v.cells = #[v]) (h : DataW.Trod enc P W 0 sp held t v d ps) (i : Nat) : ∃ o pv zs, InInt W v o i pv zs := by
  obtain ⟨fuel, hf⟩ := h
  rcases open_ints ht he hc hf with ⟨hcs, _⟩ | ⟨a, len, cap, zs, hcs, _, hle, hmx, hzl, _, hcell, hwf⟩
  · rw [hone] at hcs
    simp only [List.cons.injEq, and_true] at hcs
    subst hcs
    refine ⟨none, .slice none 0 0, [], ⟨(fun e h => by cases h), fun L _ => VR.nils 0 0 (by decide), fun L _ _ => ⟨none, 0, rfl, fun h => absurd rfl h⟩, (fun z hz => by cases hz), none, 0, rfl, Nat.le_refl _, by decide⟩⟩
  · rw [hone] at hcs
    simp only [List.cons.injEq, and_true] at hcs
    subst hcs
    have hcap : cap < openCap := by unfold maxLen at hmx; unfold openCap; omega
    have hlz : len ≤ zs.length := by rw [hzl]; split <;> omega
    by_cases hl0 : len = 0
    · subst hl0
      refine ⟨none, .slice (some ⟨i, 0, none⟩) 0 cap, [], ⟨(fun e h => by cases h), fun L hL => VR.sl 0 cap hcap hle (.inr (AR_dead hL)), fun L _ _ => ⟨_, cap, rfl, fun h => absurd rfl h⟩, (fun z hz => by cases hz), _, cap, rfl, Nat.zero_le _, hcap⟩⟩
    · have hne : (zs.take len).map iv ≠ [] := by
        intro h0
        have := congrArg List.length h0
        simp only [List.length_map, List.length_take, List.length_nil] at this
        omega
      obtain ⟨hs, m, hent⟩ := ent_of (W := W) (a := a) (vs := (zs.take len).map iv) hne (by
        intro k u hu
        rw [List.getElem?_map, List.getElem?_take] at hu
        split at hu
        · rename_i hk
          have hkz : k < zs.length := by omega
          rw [List.getElem?_eq_getElem hkz] at hu
          cases hu
          rw [hcell k hkz]
          simp [iv, hkz]
        · cases hu)
      refine ⟨some ⟨a.block, a.off, m, (zs.take len).map iv⟩, .slice (some ⟨i, 0, none⟩) len cap, zs.take len, ⟨?_, ?_, ?_, ?_, ⟨some ⟨i, 0, none⟩, cap, by rw [List.length_take, Nat.min_eq_left hlz], by rw [List.length_take, Nat.min_eq_left hlz]; exact hle, hcap⟩⟩⟩
      · intro e h L
        cases h
        exact hent (inB L) _ (LR_ints _)
      · intro L hL
        exact .sl len cap hcap hle (.inr (AR_in hL rfl rfl hs))
      · intro L hLb hL
        refine ⟨some ⟨i, 0, none⟩, cap, by simp [hlz], fun _ => ⟨by omega, i, 0, ⟨0, 0, false, (zs.take len).map iv⟩, rfl, ?_, ?_⟩⟩
        · rw [inH_get L hLb, hL]
        · intro j hj
          simp only [Nat.zero_add]
          exact List.getElem?_eq_getElem hj
      · intro z hz
        exact wf_i64 (hwf z (List.mem_of_mem_take hz))
def mxT {α : Type} : Tr α → Nat
  | .nil => 0
  | .node l v r => Nat.max (if v.isSome then 1 else 0) (Nat.max (if mxT l = 0 then 0 else 2 * mxT l) (if mxT r = 0 then 0 else 2 * mxT r + 1))
theorem mxT_get {α : Type} : ∀ (t : Tr α) (k : Nat), mxT t ≤ k → t.get k = none
  | .nil, _, _ => rfl
  | .node l v r, k, h => by
    have h1 : (if v.isSome then 1 else 0) ≤ k := Nat.le_trans (Nat.le_max_left _ _) h
    have h2 : (if mxT l = 0 then 0 else 2 * mxT l) ≤ k := Nat.le_trans (Nat.le_max_left _ _) (Nat.le_trans (Nat.le_max_right _ _) h)
    have h3 : (if mxT r = 0 then 0 else 2 * mxT r + 1) ≤ k := Nat.le_trans (Nat.le_max_right _ _) (Nat.le_trans (Nat.le_max_right _ _) h)
    rw [Tr.get_node]
    by_cases h0 : k = 0
    · rw [if_pos h0]
      cases v with
      | none => rfl
      | some x => simp at h1; omega
    · rw [if_neg h0]
      by_cases hk : k % 2 = 1
      · rw [if_pos hk]
        apply mxT_get l
        split at h2 <;> omega
      · rw [if_neg hk]
        apply mxT_get r
        split at h3 <;> omega
def closedB (old : Nat → Option Blk) : Option (CR × Heap) → Option (Bool × (Nat → Option Blk))
  | some (.ret (.bool b), H) => some (b && decide (base0 ≤ H.next) && decide (mxT H.tr ≤ H.next - base0), H.old)
  | _ => none
theorem closed_of {P : Program} {k f : Nat} {old : Nat → Option Blk} (h : closedB old (call P k f #[] ⟨old, .nil, base0⟩) = some (true, old)) : CW P f #[] ⟨old, .nil, base0⟩ fun x H' => x = .ret (.bool true) ∧ Ext ⟨old, .nil, base0⟩ H' := by
  cases hc : call P k f #[] ⟨old, .nil, base0⟩ with
  | none => rw [hc] at h; cases h
  | some r =>
    obtain ⟨x, H'⟩ := r
    rw [hc] at h
    cases x with
    | pan v => cases h
    | ret v =>
      cases v with
      | bool b =>
        simp only [closedB, Option.some.injEq, Prod.mk.injEq, Bool.and_eq_true, decide_eq_true_eq] at h
        obtain ⟨⟨⟨rfl, h1⟩, h2⟩, h3⟩ := h
        refine ⟨_, H', callW_iff.2 ⟨k, hc⟩, rfl, ⟨h1, fun b hb => ?_⟩, h1, fun b hb => ?_⟩
        · unfold Heap.get
          rw [if_neg (by omega)]
          exact mxT_get _ _ (by omega)
        · have hb : b < base0 := hb
          unfold Heap.get
          rw [if_pos hb, if_pos hb, h3]
      | _ => cases h
set_option maxRecDepth 100000 in
theorem begun_law (old : Nat → Option Blk) : CW Try.prog 9 #[] ⟨old, .nil, base0⟩ fun x H' => x = .ret (.bool true) ∧ Ext ⟨old, .nil, base0⟩ H' := closed_of (k := 2000) (by kernel_rfl)
end Go.Am.T
namespace Go.Proofs.Ythanhcpnhionaaa
open Go.ChangeShapes Go.WideShapes Go.ChangeAt Go.RowKit Go.Am Go.Am.T
theorem Try.own : ownKnob Try.prog.godebug = none := by kernel_rfl
theorem Try.laidOut : laidOutB Try.prog = true := by kernel_rfl
theorem Try.mixed : Try.prog.follows .mixedOrders = true := by kernel_rfl
theorem Try.names : (Try.prog.funcs.toList.all fun fn => !(fn.name == "runtime.NumGoroutine")) = true := by kernel_rfl
theorem Try.nameOk : NameOk Try.prog := by
  intro f fn hf
  have hm : fn ∈ Try.prog.funcs.toList := by
    obtain ⟨h1, h2⟩ := Array.getElem?_eq_some_iff.1 hf
    rw [← h2]; exact Array.mem_toList_iff.2 (Array.getElem_mem h1)
  have := List.all_eq_true.1 Try.names fn hm
  simpa using this
end Go.Proofs.Ythanhcpnhionaaa
namespace Go.Am.T
open Go Go.Am Go.Proofs.Ythanhcpnhionaaa Go.Proofs
def actC : List Act → List Value
  | [] => []
  | a :: l => a.cells ++ actC l
theorem actC_app (l m : List Act) : actC (l ++ m) = actC l ++ actC m := by
  induction l with
  | nil => rfl
  | cons a l ih => simp [actC, ih]
theorem actC_len (l : List Act) : (actC l).length = l.length * 4 := by
  induction l with
  | nil => rfl
  | cons a l ih => simp only [actC, List.length_append, ih, List.length_cons]; show 4 + _ = _; omega
theorem actC_at (l : List Act) : ∀ (i : Nat) (h : i < l.length), ((actC l).drop (i * 4)).take 4 = (l[i]).cells := by
  induction l with
  | nil => intro i h; cases h
  | cons a l ih =>
    intro i h
    cases i with
    | zero => simp only [actC, Nat.zero_mul, List.drop_zero]; exact List.take_left' rfl
    | succ i =>
      have e : (i + 1) * 4 = a.cells.length + i * 4 := by show _ = 4 + _; omega
      simp only [actC]
      rw [e, List.drop_length_add_append, ih i (by simpa using h)]
      rfl
end Go.Am.T



namespace Go.Am.T
open Go Go.Am Go.Proofs.Ythanhcpnhionaaa Go.Proofs Go.RowKit Go.ChangeShapes Go.WideShapes Go.Deep
structure InAct (W : World) (v : Value) (o : Option Ent) (i : Nat) (pv : Value) (l : List Act) : Prop where
  ok : ∀ e, o = some e → ∀ L, EntOk W (inB L) e
  vr : ∀ L : InL, L[i]? = some o → VR (inB L) pv v
  rd : ∀ L : InL, L.length ≤ base0 → L[i]? = some o → ActsAt (inH L) pv l
theorem LR_acts {β : Ren} (l : List Act) : LR β (actC l) (actC l) := by
  refine ⟨rfl, fun i u u' hu hu' => ?_⟩
  rw [hu] at hu'; cases hu'
  have hm : u ∈ actC l := List.mem_of_getElem? hu
  have key : ∀ l : List Act, u ∈ actC l → ∃ z, u = .int .i64 z := by
    intro l
    induction l with
    | nil => intro h; cases h
    | cons a l ih =>
      intro h
      rcases List.mem_append.1 h with h | h
      · simp only [Act.cells, List.mem_cons, List.not_mem_nil, or_false] at h
        rcases h with h | h | h | h <;> exact ⟨_, h⟩
      · exact ih h
  obtain ⟨z, rfl⟩ := key l hm
  exact .int _ _
theorem actC_get (l : List Act) : ∀ (k : Nat) (u : Value), (actC l)[k]? = some u → ∃ h : k / 4 < l.length, ((l[k / 4]).cells)[k % 4]? = some u := by
  induction l with
  | nil => intro k u h; simp [actC] at h
  | cons a l ih =>
    intro k u h
    simp only [actC] at h
    by_cases hk : k < 4
    · rw [List.getElem?_append_left (by exact hk)] at h
      have e1 : k / 4 = 0 := by omega
      have e2 : k % 4 = k := by omega
      refine ⟨by rw [e1]; simp, ?_⟩
      simp only [e1, List.getElem_cons_zero, e2]; exact h
    · rw [List.getElem?_append_right (by exact Nat.le_of_not_lt hk)] at h
      have h : (actC l)[k - 4]? = some u := h
      obtain ⟨h1, h2⟩ := ih _ _ h
      have e1 : k / 4 = (k - 4) / 4 + 1 := by omega
      have e2 : k % 4 = (k - 4) % 4 := by omega
      refine ⟨by rw [e1]; simp; omega, ?_⟩
      simp only [e1, List.getElem_cons_succ, e2]; exact h2
theorem len4 {α : Type} : ∀ {l : List α}, l.length = 4 → ∃ a b c d, l = [a, b, c, d]
  | [a, b, c, d], _ => ⟨a, b, c, d, rfl⟩
  | [], h => by cases h
  | [_], h => by cases h
  | [_, _], h => by cases h
  | [_, _, _], h => by cases h
  | _ :: _ :: _ :: _ :: _ :: _, h => by simp at h
theorem open_acts {Hd : Type} {enc : TypeId × Value → Hd} {W : World} {sp : Nat → Bool} {held : Bool} {V : Value} {n : Nat} {x : DataW Hd × List MemPlace} {f0 f1 f2 f3 : Field}
    (ht : Try.prog.underlying 45 = some (.slice 47)) (he : Try.prog.underlying 47 = some (.struct #[f0, f1, f2, f3])) (ce : Try.prog.cellsOf 47 = 4)
    (hf : f0.offset = 0 ∧ f1.offset = 1 ∧ f2.offset = 2 ∧ f3.offset = 3) (hk : Try.prog.underlying f0.type = some (.int .i64) ∧ Try.prog.underlying f1.type = some (.int .i64) ∧ Try.prog.underlying f2.type = some (.int .i64) ∧ Try.prog.underlying f3.type = some (.int .i64))
    (hc : Try.prog.cellsOf f0.type = 1 ∧ Try.prog.cellsOf f1.type = 1 ∧ Try.prog.cellsOf f2.type = 1 ∧ Try.prog.cellsOf f3.type = 1)
    (h : DataW.trod enc Try.prog W 0 sp held n 45 [V] = some x) (i : Nat) : ∃ q : Option Ent × Value × List Act, InAct W V q.1 i q.2.1 q.2.2 := by
  rcases open_slice ht h with ⟨h0, _⟩ | ⟨a, len, cap, m, n', D, Pl, h0, _, hl, hm, hmm, _, hx⟩
  · simp only [List.cons.injEq, and_true] at h0
    subst h0
    exact ⟨(none, .slice none 0 0, []), ⟨(fun e h => by cases h), fun L _ => VR.nils 0 0 (by decide), fun L _ _ => ⟨none, 0, rfl, fun h => absurd rfl h⟩⟩⟩
  simp only [List.cons.injEq, and_true] at h0
  subst h0
  have hcap : cap < openCap := by unfold maxLen at hm; unfold openCap; omega
  have hlm : len ≤ m := by rw [hmm]; split <;> omega
  rw [ce] at hx
  by_cases hl0 : len = 0
  · subst hl0
    exact ⟨(none, .slice (some ⟨i, 0, none⟩) 0 cap, []), ⟨(fun e h => by cases h), fun L hL => VR.sl 0 cap hcap hl (.inr (AR_dead hL)), fun L _ _ => ⟨_, cap, rfl, fun h => absurd rfl h⟩⟩⟩
  have each : ∀ j, j < len → ∃ A : Act, ∀ t, t < 4 → ∀ u, (A.cells)[t]? = some u → W.cell? (a.add (j * 4 + t)) = some u := by
    intro j hj
    obtain ⟨cs', h1, h2⟩ := hx j (by omega)
    obtain ⟨_, hlen, hcell⟩ := World.cells?_some h1
    obtain ⟨xs, k, _, _, _, hxl, hfl⟩ := DataW.trod_struct he h2
    obtain ⟨y0, y1, y2, y3, rfl⟩ := len4 (show xs.length = 4 from hxl)
    obtain ⟨v0, v1, v2, v3, rfl⟩ := len4 hlen
    have g0 := hfl 0 f0 rfl
    have g1 := hfl 1 f1 rfl
    have g2 := hfl 2 f2 rfl
    have g3 := hfl 3 f3 rfl
    simp only [hf, hc, List.drop_zero, List.drop_succ_cons, List.take_succ_cons, List.take_zero, List.getElem?_cons_zero, List.getElem?_cons_succ] at g0 g1 g2 g3
    obtain ⟨z0, e0, _⟩ := DataW.trod_int hk.1 g0
    obtain ⟨z1, e1, _⟩ := DataW.trod_int hk.2.1 g1
    obtain ⟨z2, e2, _⟩ := DataW.trod_int hk.2.2.1 g2
    obtain ⟨z3, e3, _⟩ := DataW.trod_int hk.2.2.2 g3
    simp only [List.cons.injEq, and_true] at e0 e1 e2 e3
    subst e0 e1 e2 e3
    refine ⟨⟨z0, z1, z2, z3⟩, fun t ht u hu => ?_⟩
    have := hcell t ht
    rw [Addr.add_add] at this
    rw [this]
    exact hu
  have : Inhabited Act := ⟨⟨0, 0, 0, 0⟩⟩
  obtain ⟨A, hA⟩ := choose_lt each
  have hl4 : ((List.range len).map A).length = len := by simp
  have hne : actC ((List.range len).map A) ≠ [] := by
    intro e
    have := congrArg List.length e
    rw [actC_len, hl4] at this
    simp at this; omega
  obtain ⟨hs, sz, hent⟩ := ent_of (W := W) (a := a) (vs := actC ((List.range len).map A)) hne (by
    intro k u hu
    obtain ⟨h1, h2⟩ := actC_get _ k u hu
    have hkl : k / 4 < len := by rw [hl4] at h1; exact h1
    simp only [List.getElem_map, List.getElem_range] at h2
    have := hA (k / 4) hkl (k % 4) (Nat.mod_lt _ (by omega)) u h2
    rw [show k / 4 * 4 + k % 4 = k by omega] at this
    exact this)
  refine ⟨(some ⟨a.block, a.off, sz, actC ((List.range len).map A)⟩, .slice (some ⟨i, 0, none⟩) len cap, (List.range len).map A), ⟨?_, ?_, ?_⟩⟩
  · intro e h L
    cases h
    exact hent (inB L) _ (LR_acts _)
  · intro L hL
    exact .sl len cap hcap hl (.inr (AR_in hL rfl rfl hs))
  · intro L hLb hL
    refine ⟨some ⟨i, 0, none⟩, cap, by rw [hl4], fun _ => ⟨by omega, i, 0, ⟨0, 0, false, actC ((List.range len).map A)⟩, rfl, ?_, fun j hj => ?_⟩⟩
    · rw [inH_get L hLb, hL]
    · simp only [Nat.zero_add]
      have hj : j < ((List.range len).map A).length := hj
      refine ⟨by rw [actC_len]; omega, actC_at _ j hj⟩
structure InTasks (W : World) (v : Value) (k : Nat) (o : Option Ent) (os : List (Option Ent)) (tv : Value) (ts : List (List Act)) (av : Nat → Value) : Prop where
  len : os.length = ts.length
  n : ∀ a n c, v = .slice a n c → ts.length = n
  ok : ∀ L : InL, L[0]? = some o → (∀ j, j < os.length → L[k + j]? = os[j]?) → (∀ e : Ent, o = some e → EntOk W (inB L) e) ∧ ∀ (j : Nat) (e : Ent), os[j]? = some (some e) → EntOk W (inB L) e
  vr : ∀ L : InL, L[0]? = some o → VR (inB L) tv v
  rd : ∀ L : InL, L.length ≤ base0 → L[0]? = some o → (∀ j, j < os.length → L[k + j]? = os[j]?) → TasksAt (inH L) tv ts av
theorem open_len {Hd : Type} {enc : TypeId × Value → Hd} {P : Program} {t e : TypeId} {W : World} {sp : Nat → Bool} {held : Bool} {a : Option Addr} {n c : Nat} {d : DataW Hd} {ps : List MemPlace} (hto : P.underlying t = some (.slice e)) (h : DataW.Trod enc P W 0 sp held t (.slice a n c) d ps) (i : Nat) :
    ∃ pa, ∀ L : InL, L[i]? = some none → VR (inB L) (.slice pa n c) (.slice a n c) := by
  obtain ⟨fuel, hfu⟩ := h
  rcases open_slice hto hfu with ⟨hcs, _⟩ | ⟨a', len, cap, m, n', D, Pl, hcs, _, hl, hm, _⟩
  · simp only [Value.cells, List.cons.injEq, and_true, Value.slice.injEq] at hcs
    obtain ⟨rfl, rfl, rfl⟩ := hcs
    exact ⟨none, fun L _ => VR.nils 0 0 (by decide)⟩
  · simp only [Value.cells, List.cons.injEq, and_true, Value.slice.injEq] at hcs
    obtain ⟨rfl, rfl, rfl⟩ := hcs
    have hcap : c < openCap := by unfold maxLen at hm; unfold openCap; omega
    exact ⟨some ⟨i, 0, none⟩, fun L hL => VR.sl n c hcap hl (.inr (AR_dead hL))⟩
end Go.Am.T
namespace Go.Am.T
open Go Go.Am Go.Proofs.Ythanhcpnhionaaa Go.Proofs
structure StV where
  tasks : Value
  held : Nat → Int
  lines : Nat → Value
  qs : Nat → Value
  regs : Nat → Int
  room : Int
  last : Int
def stCells (V : StV) : List Value :=
  [V.tasks, .int .i64 (V.held 0), .int .i64 (V.held 1), .int .i64 (V.held 2), .int .i64 (V.held 3), V.lines 0, V.lines 1, V.lines 2, V.lines 3, V.qs 0, V.qs 1, V.qs 2, V.qs 3,
   .int .i64 (V.regs 0), .int .i64 (V.regs 1), .int .i64 (V.regs 2), .int .i64 (V.regs 3), .int .i64 (V.regs 4), .int .i64 (V.regs 5), .int .i64 (V.regs 6), .int .i64 (V.regs 7), .int .i64 V.room, .int .i64 V.last]
def stB (V : StV) : Blk := ⟨66, 0, false, stCells V⟩
section
variable {V : StV} {i : Nat} {v : Value} {z : Int}
@[go_sem] theorem st_cells : (stB V).cells = stCells V := rfl
@[go_sem] theorem st_len : (stCells V).length = 23 := rfl
@[go_sem] theorem st_tasks : (stCells V)[0]? = some V.tasks := rfl
@[go_sem] theorem st_room : (stCells V)[21]? = some (.int .i64 V.room) := rfl
@[go_sem] theorem st_last : (stCells V)[22]? = some (.int .i64 V.last) := rfl
@[go_sem] theorem st_held (h : i < 4) : (stCells V)[1 + i]? = some (.int .i64 (V.held i)) := by match i, h with | 0, _ | 1, _ | 2, _ | 3, _ => rfl
@[go_sem] theorem st_line (h : i < 4) : (stCells V)[5 + i]? = some (V.lines i) := by match i, h with | 0, _ | 1, _ | 2, _ | 3, _ => rfl
@[go_sem] theorem st_q (h : i < 4) : (stCells V)[9 + i]? = some (V.qs i) := by match i, h with | 0, _ | 1, _ | 2, _ | 3, _ => rfl
@[go_sem] theorem st_reg (h : i < 8) : (stCells V)[13 + i]? = some (.int .i64 (V.regs i)) := by match i, h with | 0, _ | 1, _ | 2, _ | 3, _ | 4, _ | 5, _ | 6, _ | 7, _ => rfl
@[go_sem] theorem lt23_1 (h : i < 4) : (1 + i < 23) = True := eq_true (by omega)
@[go_sem] theorem lt23_5 (h : i < 4) : (5 + i < 23) = True := eq_true (by omega)
@[go_sem] theorem lt23_9 (h : i < 4) : (9 + i < 23) = True := eq_true (by omega)
@[go_sem] theorem lt23_13 (h : i < 8) : (13 + i < 23) = True := eq_true (by omega)
@[go_sem] theorem sw_tasks : ({ stB V with cells := (stCells V).set 0 v } : Blk) = stB { V with tasks := v } := rfl
@[go_sem] theorem sw_last : ({ stB V with cells := (stCells V).set 22 (.int .i64 z) } : Blk) = stB { V with last := z } := rfl
@[go_sem] theorem sw_held (h : i < 4) : ({ stB V with cells := (stCells V).set (1 + i) (.int .i64 z) } : Blk) = stB { V with held := upd V.held i z } := by match i, h with | 0, _ | 1, _ | 2, _ | 3, _ => rfl
@[go_sem] theorem sw_line (h : i < 4) : ({ stB V with cells := (stCells V).set (5 + i) v } : Blk) = stB { V with lines := upd V.lines i v } := by match i, h with | 0, _ | 1, _ | 2, _ | 3, _ => rfl
@[go_sem] theorem sw_q (h : i < 4) : ({ stB V with cells := (stCells V).set (9 + i) v } : Blk) = stB { V with qs := upd V.qs i v } := by match i, h with | 0, _ | 1, _ | 2, _ | 3, _ => rfl
@[go_sem] theorem sw_reg (h : i < 8) : ({ stB V with cells := (stCells V).set (13 + i) (.int .i64 z) } : Blk) = stB { V with regs := upd V.regs i z } := by match i, h with | 0, _ | 1, _ | 2, _ | 3, _ | 4, _ | 5, _ | 6, _ | 7, _ => rfl
@[go_sem] theorem sw_reg7 : ({ stB V with cells := (stCells V).set 20 (.int .i64 z) } : Blk) = stB { V with regs := upd V.regs 7 z } := rfl
end
structure TcV where
  acts : Value
  at_ : Int
  wait : Int
  guard : Int
  how : Int
  n : Int
def tcC (T : TcV) : List Value := [T.acts, .int .i64 T.at_, .int .i64 T.wait, .int .i64 T.guard, .int .i64 T.how, .int .i64 T.n]
def fl6 (T : Nat → TcV) : Nat → List Value
  | 0 => []
  | n + 1 => fl6 T n ++ tcC (T n)
theorem fl6_len (T : Nat → TcV) : ∀ N, (fl6 T N).length = N * 6
  | 0 => rfl
  | N + 1 => by rw [fl6, List.length_append, fl6_len T N]; show N * 6 + 6 = _; omega
theorem fl6_at (T : Nat → TcV) {i k : Nat} (hk : k < 6) : ∀ {N : Nat}, i < N → (fl6 T N)[i * 6 + k]? = (tcC (T i))[k]?
  | 0, h => by cases h
  | N + 1, h => by
    rw [fl6]
    by_cases e : i = N
    · subst e
      rw [List.getElem?_append_right (by rw [fl6_len]; omega), fl6_len, Nat.add_sub_cancel_left]
    · rw [List.getElem?_append_left (by rw [fl6_len]; omega)]; exact fl6_at T hk (by omega)
theorem fl6_congr {T U : Nat → TcV} : ∀ {N : Nat}, (∀ i, i < N → T i = U i) → fl6 T N = fl6 U N
  | 0, _ => rfl
  | N + 1, h => by rw [fl6, fl6, fl6_congr (fun i hi => h i (by omega)), h N (by omega)]
theorem fl6_set (T : Nat → TcV) {i k : Nat} {v : Value} {t : TcV} (hk : k < 6) (ht : (tcC (T i)).set k v = tcC t) : ∀ {N : Nat}, i < N → (fl6 T N).set (i * 6 + k) v = fl6 (upd T i t) N
  | 0, h => by cases h
  | N + 1, h => by
    rw [fl6, fl6]
    by_cases e : i = N
    · subst e
      rw [List.set_append_right _ _ (by rw [fl6_len]; omega), fl6_len, Nat.add_sub_cancel_left, ht, upd_same, fl6_congr (T := T) (U := upd T i t) (fun j hj => (upd_ne (by omega)).symm)]
    · rw [List.set_append_left _ _ (by rw [fl6_len]; omega), fl6_set T hk ht (by omega), upd_ne (by omega : N ≠ i)]
def arB (pre : List Value) (T : Nat → TcV) (N : Nat) : Blk := ⟨68, 6, true, pre ++ fl6 T N⟩
def arC (pre : List Value) (T : Nat → TcV) (N : Nat) : List Value := pre ++ fl6 T N
section
variable {pre : List Value} {T : Nat → TcV} {N i : Nat} {z : Int} {v : Value}
@[go_sem] theorem ar_cells : (arB pre T N).cells = arC pre T N := rfl
theorem ar_len : (arC pre T N).length = pre.length + N * 6 := by rw [arC, List.length_append, fl6_len]
theorem ar_at {k : Nat} (hk : k < 6) (h : i < N) : (arC pre T N)[pre.length + i * 6 + k]? = (tcC (T i))[k]? := by
  rw [arC, Nat.add_assoc, List.getElem?_append_right (by omega), Nat.add_sub_cancel_left]; exact fl6_at T hk h
theorem ar_set {k : Nat} {t : TcV} (hk : k < 6) (ht : (tcC (T i)).set k v = tcC t) (h : i < N) : ({ arB pre T N with cells := (arC pre T N).set (pre.length + i * 6 + k) v } : Blk) = arB pre (upd T i t) N := by
  show (⟨68, 6, true, (pre ++ fl6 T N).set _ v⟩ : Blk) = ⟨68, 6, true, pre ++ fl6 (upd T i t) N⟩
  rw [Nat.add_assoc, List.set_append_right _ _ (by omega), Nat.add_sub_cancel_left, fl6_set T hk ht h]
@[go_sem] theorem ar_0 (h : i < N) : (arC pre T N)[pre.length + i * 6]? = some (T i).acts := ar_at (k := 0) (by omega) h
@[go_sem] theorem ar_1 (h : i < N) : (arC pre T N)[pre.length + i * 6 + 1]? = some (.int .i64 (T i).at_) := ar_at (by omega) h
@[go_sem] theorem ar_2 (h : i < N) : (arC pre T N)[pre.length + i * 6 + 2]? = some (.int .i64 (T i).wait) := ar_at (by omega) h
@[go_sem] theorem ar_3 (h : i < N) : (arC pre T N)[pre.length + i * 6 + 3]? = some (.int .i64 (T i).guard) := ar_at (by omega) h
@[go_sem] theorem ar_4 (h : i < N) : (arC pre T N)[pre.length + i * 6 + 4]? = some (.int .i64 (T i).how) := ar_at (by omega) h
@[go_sem] theorem ar_5 (h : i < N) : (arC pre T N)[pre.length + i * 6 + 5]? = some (.int .i64 (T i).n) := ar_at (by omega) h
@[go_sem] theorem ar_s1 (h : i < N) : ({ arB pre T N with cells := (arC pre T N).set (pre.length + i * 6 + 1) (.int .i64 z) } : Blk) = arB pre (upd T i { T i with at_ := z }) N := ar_set (by omega) rfl h
@[go_sem] theorem ar_s2 (h : i < N) : ({ arB pre T N with cells := (arC pre T N).set (pre.length + i * 6 + 2) (.int .i64 z) } : Blk) = arB pre (upd T i { T i with wait := z }) N := ar_set (by omega) rfl h
@[go_sem] theorem ar_s3 (h : i < N) : ({ arB pre T N with cells := (arC pre T N).set (pre.length + i * 6 + 3) (.int .i64 z) } : Blk) = arB pre (upd T i { T i with guard := z }) N := ar_set (by omega) rfl h
@[go_sem] theorem ar_s4 (h : i < N) : ({ arB pre T N with cells := (arC pre T N).set (pre.length + i * 6 + 4) (.int .i64 z) } : Blk) = arB pre (upd T i { T i with how := z }) N := ar_set (by omega) rfl h
@[go_sem] theorem ar_s5 (h : i < N) : ({ arB pre T N with cells := (arC pre T N).set (pre.length + i * 6 + 5) (.int .i64 z) } : Blk) = arB pre (upd T i { T i with n := z }) N := ar_set (by omega) rfl h
@[go_sem] theorem ar_lt {k : Nat} (h : i < N) (hk : k < 6) : (pre.length + i * 6 + k < (arC pre T N).length) = True := eq_true (by rw [ar_len]; omega)
@[go_sem] theorem ar_le6 (h : i < N) : (pre.length + i * 6 + 6 ≤ (arC pre T N).length) = True := eq_true (by rw [ar_len]; omega)
@[go_sem] theorem ar_take (h : i < N) : ((arC pre T N).drop (pre.length + i * 6)).take 6 = tcC (T i) := by
  apply List.ext_getElem?
  intro k
  rw [List.getElem?_take]
  split
  · rename_i hk
    rw [List.getElem?_drop]; exact ar_at hk h
  · rename_i hk
    rw [List.getElem?_eq_none (by show 6 ≤ k; omega)]
@[go_sem] theorem upd_self {α : Type} {f : Nat → α} {x : α} : upd f i x i = x := upd_same
@[go_sem] theorem upd_twice {α : Type} {f : Nat → α} {x y : α} : upd (upd f i x) i y = upd f i y := by
  funext j; unfold upd; split <;> rfl
end
theorem ends_W {H : Heap} {b N i : Nat} {pre : List Value} {T : Nat → TcV} {a : Option Addr} {n c : Nat} (hb : base0 ≤ b) (hx : H.get b = some (arB pre T N)) (hi : i < N) (ha : (T i).acts = .slice a n c) :
    CW Try.prog 36 #[.pointer (some ⟨b, pre.length + i * 6, none⟩)] H fun x H' => x = .ret (.tuple #[]) ∧ (if (n : Int) ≤ (T i).at_ then H.set b (arB pre (upd T i { T i with how := 1 }) N) else H) = H' := by
  refine CW_k (n := 15) if36 rfl ?_
  unfold C36
  by_cases h : (n : Int) ≤ (T i).at_
  · simp -implicitDefEqProofs (maxDischargeDepth := 6) (maxSteps := 1000000) only [go_sem, ↓reduceIte, Nat.reduceLT, Nat.reduceLeDiff, Nat.reduceEqDiff, Nat.reduceAdd, Nat.reduceMul, Nat.reduceSub, Nat.reduceBEq, reduceCtorEq, Int.reduceEq, Int.reduceLT, Int.reduceLE, Int.reduceNeg, Int.reduceToNat, hb, hx, hi, ha, goInt, h]
  · simp -implicitDefEqProofs (maxDischargeDepth := 6) (maxSteps := 1000000) only [go_sem, ↓reduceIte, Nat.reduceLT, Nat.reduceLeDiff, Nat.reduceEqDiff, Nat.reduceAdd, Nat.reduceMul, Nat.reduceSub, Nat.reduceBEq, reduceCtorEq, Int.reduceEq, Int.reduceLT, Int.reduceLE, Int.reduceNeg, Int.reduceToNat, hb, hx, hi, ha, goInt, h]
end Go.Am.T
namespace Go.Am.T
open Go Go.Am Go.Proofs.Ythanhcpnhionaaa Go.Proofs
structure U2 (H H' : Heap) (r b : Nat) (x y : Blk) : Prop where
  wf : WF H'
  le : H.next ≤ H'.next
  rb : base0 ≤ r
  bb : base0 ≤ b
  ne : r ≠ b
  gr : H'.get r = some x
  gb : H'.get b = some y
  other : ∀ c, c < H.next → c ≠ r → c ≠ b → H'.get c = H.get c
theorem U2.refl {H : Heap} {r b : Nat} {x y : Blk} (wf : WF H) (rb : base0 ≤ r) (bb : base0 ≤ b) (ne : r ≠ b) (gr : H.get r = some x) (gb : H.get b = some y) : U2 H H r b x y := ⟨wf, Nat.le_refl _, rb, bb, ne, gr, gb, fun _ _ _ _ => rfl⟩
theorem U2.setR {H H' : Heap} {r b : Nat} {x y : Blk} (h : U2 H H' r b x y) (x' : Blk) : U2 H (H'.set r x') r b x' y :=
  ⟨h.wf.set (h.wf.lt h.gr) _, by rw [next_set]; exact h.le, h.rb, h.bb, h.ne, get_set_eq h.rb, by rw [get_set_ne h.ne.symm]; exact h.gb, fun c hc h1 h2 => by rw [get_set_ne h1]; exact h.other c hc h1 h2⟩
theorem U2.setB {H H' : Heap} {r b : Nat} {x y : Blk} (h : U2 H H' r b x y) (y' : Blk) : U2 H (H'.set b y') r b x y' :=
  ⟨h.wf.set (h.wf.lt h.gb) _, by rw [next_set]; exact h.le, h.rb, h.bb, h.ne, by rw [get_set_ne h.ne]; exact h.gr, get_set_eq h.bb, fun c hc h1 h2 => by rw [get_set_ne h2]; exact h.other c hc h1 h2⟩
theorem U2.ext {H H' H'' : Heap} {r b : Nat} {x y : Blk} (h : U2 H H' r b x y) (e : Ext H' H'') : U2 H H'' r b x y :=
  ⟨e.wf, Nat.le_trans h.le e.le, h.rb, h.bb, h.ne, e.of h.wf h.gr, e.of h.wf h.gb, fun c hc h1 h2 => (e.get c (Nat.lt_of_lt_of_le hc h.le)).trans (h.other c hc h1 h2)⟩
theorem ext_as {H G : Heap} (h : Ext H G) (x y : Blk) : Ext H ((G.alloc x).set G.next y) := (h.alloc x).set h.le (by simp only [next_alloc]; omega) y
def panT (t : TcV) (len : Nat) (n : Int) : TcV :=
  if t.guard < 0 then { t with how := 2, n := n } else { t with at_ := t.guard, guard := -1, how := if (len : Int) ≤ t.guard then 1 else t.how }
def panV (V : StV) (t : TcV) (n : Int) : StV := if t.guard < 0 then V else { V with regs := upd V.regs 7 n }
theorem panics_W {H : Heap} (hw : WF H) {r b N i : Nat} {V : StV} {pre : List Value} {T : Nat → TcV} {a : Option Addr} {len c : Nat} {n : Int} (hrb : base0 ≤ r) (hbb : base0 ≤ b) (hne : r ≠ b) (hr : H.get r = some (stB V)) (hx : H.get b = some (arB pre T N))
    (ht : V.tasks = .slice (some ⟨b, pre.length, none⟩) N openCap) (hi : i < N) (ha : (T i).acts = .slice a len c) :
    CW Try.prog 37 #[.pointer (some ⟨r, 0, none⟩), nv i, .int .i64 n] H fun x H' => x = .ret (.tuple #[]) ∧ U2 H H' r b (stB (panV V (T i) n)) (arB pre (upd T i (panT (T i) len n)) N) := by
  refine CW_k (n := 42) if37 rfl ?_
  unfold C37
  have hiZ : (i : Int) < (N : Int) := by omega
  have hi0 : (0 : Int) ≤ (i : Int) := by omega
  have hoc : ¬ openCap = 0 := by unfold openCap; omega
  have hne' := hne.symm
  have u0 := U2.refl hw hrb hbb hne hr hx
  have hrl := hw.lt hr
  have hbl := hw.lt hx
  by_cases hg : (T i).guard < 0
  · simp -implicitDefEqProofs (maxDischargeDepth := 6) (maxSteps := 1000000) only [go_sem, ↓reduceIte, Nat.reduceLT, Nat.reduceLeDiff, Nat.reduceEqDiff, Nat.reduceAdd, Nat.reduceMul, Nat.reduceSub, Nat.reduceBEq, reduceCtorEq, Int.reduceEq, Int.reduceLT, Int.reduceLE, Int.reduceNeg, Int.reduceToNat, hr, hx, ht, hiZ, hi0, hoc, hi, hg, hrb, hbb, hne, hne', nv]
    have e1 : panV V (T i) n = V := by unfold panV; rw [if_pos hg]
    have e2 : panT (T i) len n = { T i with how := 2, n := n } := by unfold panT; rw [if_pos hg]
    rw [e1, e2]
    have := (u0.setB (arB pre (upd T i { T i with how := 2 }) N)).setB (arB pre (upd T i { T i with how := 2, n := n }) N)
    first | exact this | exact u0.setB _
  · simp -implicitDefEqProofs (maxDischargeDepth := 6) (maxSteps := 1000000) only [go_sem, ↓reduceIte, Nat.reduceLT, Nat.reduceLeDiff, Nat.reduceEqDiff, Nat.reduceAdd, Nat.reduceMul, Nat.reduceSub, Nat.reduceBEq, reduceCtorEq, Int.reduceEq, Int.reduceLT, Int.reduceLE, Int.reduceNeg, Int.reduceToNat, hr, hx, ht, hiZ, hi0, hoc, hi, hg, hrb, hbb, hne, hne', nv]
    have u1 := (u0.setR (stB { V with regs := upd V.regs 7 n })).setB (arB pre (upd T i { T i with at_ := (T i).guard, guard := -1 }) N)
    rw [← ht]
    refine CW_mono _ (ends_W hbb u1.gb hi (by rw [upd_same]; exact ha)) ?_
    rintro _ H' ⟨rfl, rfl⟩
    simp -implicitDefEqProofs (maxDischargeDepth := 6) (maxSteps := 1000000) only [go_sem, ↓reduceIte, Nat.reduceLT, Nat.reduceLeDiff, Nat.reduceEqDiff, Nat.reduceAdd, Nat.reduceMul, Nat.reduceSub, Nat.reduceBEq, reduceCtorEq, Int.reduceEq, Int.reduceLT, Int.reduceLE, Int.reduceNeg, Int.reduceToNat, ]
    have e1 : panV V (T i) n = { V with regs := upd V.regs 7 n } := by unfold panV; rw [if_neg hg]
    rw [e1]
    by_cases hle : (len : Int) ≤ (T i).guard
    · have e2 : panT (T i) len n = { T i with at_ := (T i).guard, guard := -1, how := 1 } := by unfold panT; rw [if_neg hg, if_pos hle]
      simp only [upd_same, hle, if_true]
      rw [e2]
      simp only [upd_twice, set_set]
      exact (u0.setR (stB { V with regs := upd V.regs 7 n })).setB (arB pre (upd T i { T i with at_ := (T i).guard, guard := -1, how := 1 }) N)
    · have e2 : panT (T i) len n = { T i with at_ := (T i).guard, guard := -1 } := by unfold panT; rw [if_neg hg, if_neg hle]
      simp only [upd_same, hle, if_false]
      rw [e2]
      exact u1
def whyP (V : StV) (ql : Nat → Nat) (t : TcV) (x : Act) : Int :=
  if t.wait = 1 then 5 else if t.wait = 2 ∧ V.held x.b.toNat ≠ 0 then 4 else if x.k = 1 ∧ V.held x.a.toNat ≠ 0 then 4
  else if x.k = 6 ∧ V.room ≤ ql x.a.toNat then 6 else if x.k = 7 ∧ ql x.a.toNat = 0 then 7 else 0
theorem why_W {H : Heap} (hw : WF H) {r b N i : Nat} {V : StV} {pre : List Value} {T : Nat → TcV} {l : List Act} (hrb : base0 ≤ r) (hbb : base0 ≤ b) (hne : r ≠ b) (hr : H.get r = some (stB V)) (hx : H.get b = some (arB pre T N))
    (ht : V.tasks = .slice (some ⟨b, pre.length, none⟩) N openCap) (hi : i < N) (ha : ActsAt H (T i).acts l) {j : Nat} (hj : j < l.length) (hat : (T i).at_ = j) (hV : Valid l.length l[j]) (hw2 : (T i).wait = 2 → (l[j]).k = 3)
    {ql : Nat → Nat} {qa : Nat → Option Addr} {qc : Nat → Nat} (hq : ∀ j, j < 4 → V.qs j = .slice (qa j) (ql j) (qc j)) :
    CW Try.prog 27 #[.pointer (some ⟨r, 0, none⟩), nv i] H fun x H' => x = .ret (.int .i64 (whyP V ql (T i) l[j])) ∧ Ext H H' := by
  refine CW_k (n := 86) if27 rfl ?_
  unfold C27
  have hiZ : (i : Int) < (N : Int) := by omega
  have hi0 : (0 : Int) ≤ (i : Int) := by omega
  have hoc : ¬ openCap = 0 := by unfold openCap; omega
  have hne' := hne.symm
  have hrl := hw.lt hr
  have hbl := hw.lt hx
  have hnb := hw.1
  obtain ⟨c, o, cc, y, e, hc, hy, hle, htk⟩ := ha.at_ hj
  have hcl := hw.lt hy
  have hj0 : (0 : Int) ≤ (j : Int) := by omega
  have hjZ : (j : Int) < (l.length : Int) := by omega
  generalize hA : l[j] = A at hV hw2 htk
  have hE : ∀ x y x' y' : Blk, Ext H (((((H.alloc x).set H.next y)).alloc x').set (H.next + 1) y') := fun x y x' y' => by
    have := ext_as (ext_as (Ext.refl hw) x y) x' y'
    rw [next_set, next_alloc] at this
    exact this
  by_cases c1 : (T i).wait = 1
  · simp -implicitDefEqProofs (maxDischargeDepth := 6) (maxSteps := 1000000) only [go_sem, ↓reduceIte, Nat.reduceLT, Nat.reduceLeDiff, Nat.reduceEqDiff, Nat.reduceAdd, Nat.reduceMul, Nat.reduceSub, Nat.reduceBEq, reduceCtorEq, Int.reduceEq, Int.reduceLT, Int.reduceLE, Int.reduceNeg, Int.reduceToNat, hr, hx, ht, hiZ, hi0, hoc, hi, hrb, hbb, hne, hne', nv, loads_eq, hrl, hbl, hcl, hnb, e, hat, hj0, hjZ, hc, hy, hle, htk, tcC, goInt, c1]
    exact ⟨by simp [whyP, c1], hE _ _ _ _⟩
  by_cases c2 : (T i).wait = 2
  · have k3 := hw2 c2
    obtain ⟨b0, b4⟩ := hV.b4 k3
    have hB : A.b.toNat < 4 := by omega
    by_cases ch : V.held A.b.toNat = 0
    · simp -implicitDefEqProofs (maxDischargeDepth := 6) (maxSteps := 1000000) only [go_sem, ↓reduceIte, Nat.reduceLT, Nat.reduceLeDiff, Nat.reduceEqDiff, Nat.reduceAdd, Nat.reduceMul, Nat.reduceSub, Nat.reduceBEq, reduceCtorEq, Int.reduceEq, Int.reduceLT, Int.reduceLE, Int.reduceNeg, Int.reduceToNat, hr, hx, ht, hiZ, hi0, hoc, hi, hrb, hbb, hne, hne', nv, loads_eq, hrl, hbl, hcl, hnb, e, hat, hj0, hjZ, hc, hy, hle, htk, tcC, goInt, c1, c2, k3, b0, b4, hB, ch]
      exact ⟨by simp [whyP, c2, ch, k3], hE _ _ _ _⟩
    · simp -implicitDefEqProofs (maxDischargeDepth := 6) (maxSteps := 1000000) only [go_sem, ↓reduceIte, Nat.reduceLT, Nat.reduceLeDiff, Nat.reduceEqDiff, Nat.reduceAdd, Nat.reduceMul, Nat.reduceSub, Nat.reduceBEq, reduceCtorEq, Int.reduceEq, Int.reduceLT, Int.reduceLE, Int.reduceNeg, Int.reduceToNat, hr, hx, ht, hiZ, hi0, hoc, hi, hrb, hbb, hne, hne', nv, loads_eq, hrl, hbl, hcl, hnb, e, hat, hj0, hjZ, hc, hy, hle, htk, tcC, goInt, c1, c2, k3, b0, b4, hB, ch]
      exact ⟨by simp [whyP, c2, ch], hE _ _ _ _⟩
  by_cases k1 : A.k = 1
  · obtain ⟨a0, a4⟩ := hV.a4 (by omega)
    have hB : A.a.toNat < 4 := by omega
    by_cases ch : V.held A.a.toNat = 0
    · simp -implicitDefEqProofs (maxDischargeDepth := 6) (maxSteps := 1000000) only [go_sem, ↓reduceIte, Nat.reduceLT, Nat.reduceLeDiff, Nat.reduceEqDiff, Nat.reduceAdd, Nat.reduceMul, Nat.reduceSub, Nat.reduceBEq, reduceCtorEq, Int.reduceEq, Int.reduceLT, Int.reduceLE, Int.reduceNeg, Int.reduceToNat, hr, hx, ht, hiZ, hi0, hoc, hi, hrb, hbb, hne, hne', nv, loads_eq, hrl, hbl, hcl, hnb, e, hat, hj0, hjZ, hc, hy, hle, htk, tcC, goInt, c1, c2, k1, a0, a4, hB, ch]
      exact ⟨by simp [whyP, c1, c2, ch, k1], hE _ _ _ _⟩
    · simp -implicitDefEqProofs (maxDischargeDepth := 6) (maxSteps := 1000000) only [go_sem, ↓reduceIte, Nat.reduceLT, Nat.reduceLeDiff, Nat.reduceEqDiff, Nat.reduceAdd, Nat.reduceMul, Nat.reduceSub, Nat.reduceBEq, reduceCtorEq, Int.reduceEq, Int.reduceLT, Int.reduceLE, Int.reduceNeg, Int.reduceToNat, hr, hx, ht, hiZ, hi0, hoc, hi, hrb, hbb, hne, hne', nv, loads_eq, hrl, hbl, hcl, hnb, e, hat, hj0, hjZ, hc, hy, hle, htk, tcC, goInt, c1, c2, k1, a0, a4, hB, ch]
      exact ⟨by simp [whyP, c1, c2, ch, k1], hE _ _ _ _⟩
  by_cases k6 : A.k = 6
  · obtain ⟨a0, a4⟩ := hV.a4 (by omega)
    have hB : A.a.toNat < 4 := by omega
    have hqk := hq _ hB
    by_cases ch : V.room ≤ (ql A.a.toNat : Int)
    · simp -implicitDefEqProofs (maxDischargeDepth := 6) (maxSteps := 1000000) only [go_sem, ↓reduceIte, Nat.reduceLT, Nat.reduceLeDiff, Nat.reduceEqDiff, Nat.reduceAdd, Nat.reduceMul, Nat.reduceSub, Nat.reduceBEq, reduceCtorEq, Int.reduceEq, Int.reduceLT, Int.reduceLE, Int.reduceNeg, Int.reduceToNat, hr, hx, ht, hiZ, hi0, hoc, hi, hrb, hbb, hne, hne', nv, loads_eq, hrl, hbl, hcl, hnb, e, hat, hj0, hjZ, hc, hy, hle, htk, tcC, goInt, c1, c2, k1, k6, a0, a4, hB, ch, hqk]
      exact ⟨by simp [whyP, c1, c2, ch, k6], hE _ _ _ _⟩
    · simp -implicitDefEqProofs (maxDischargeDepth := 6) (maxSteps := 1000000) only [go_sem, ↓reduceIte, Nat.reduceLT, Nat.reduceLeDiff, Nat.reduceEqDiff, Nat.reduceAdd, Nat.reduceMul, Nat.reduceSub, Nat.reduceBEq, reduceCtorEq, Int.reduceEq, Int.reduceLT, Int.reduceLE, Int.reduceNeg, Int.reduceToNat, hr, hx, ht, hiZ, hi0, hoc, hi, hrb, hbb, hne, hne', nv, loads_eq, hrl, hbl, hcl, hnb, e, hat, hj0, hjZ, hc, hy, hle, htk, tcC, goInt, c1, c2, k1, k6, a0, a4, hB, ch, hqk]
      exact ⟨by simp [whyP, c1, c2, ch, k6], hE _ _ _ _⟩
  by_cases k7 : A.k = 7
  · obtain ⟨a0, a4⟩ := hV.a4 (by omega)
    have hB : A.a.toNat < 4 := by omega
    have hqk := hq _ hB
    by_cases ch : (ql A.a.toNat : Int) = 0
    · simp -implicitDefEqProofs (maxDischargeDepth := 6) (maxSteps := 1000000) only [go_sem, ↓reduceIte, Nat.reduceLT, Nat.reduceLeDiff, Nat.reduceEqDiff, Nat.reduceAdd, Nat.reduceMul, Nat.reduceSub, Nat.reduceBEq, reduceCtorEq, Int.reduceEq, Int.reduceLT, Int.reduceLE, Int.reduceNeg, Int.reduceToNat, hr, hx, ht, hiZ, hi0, hoc, hi, hrb, hbb, hne, hne', nv, loads_eq, hrl, hbl, hcl, hnb, e, hat, hj0, hjZ, hc, hy, hle, htk, tcC, goInt, c1, c2, k1, k6, k7, a0, a4, hB, ch, hqk]
      have ch' : ql A.a.toNat = 0 := by omega
      exact ⟨by simp [whyP, c1, c2, ch', k7], hE _ _ _ _⟩
    · simp -implicitDefEqProofs (maxDischargeDepth := 6) (maxSteps := 1000000) only [go_sem, ↓reduceIte, Nat.reduceLT, Nat.reduceLeDiff, Nat.reduceEqDiff, Nat.reduceAdd, Nat.reduceMul, Nat.reduceSub, Nat.reduceBEq, reduceCtorEq, Int.reduceEq, Int.reduceLT, Int.reduceLE, Int.reduceNeg, Int.reduceToNat, hr, hx, ht, hiZ, hi0, hoc, hi, hrb, hbb, hne, hne', nv, loads_eq, hrl, hbl, hcl, hnb, e, hat, hj0, hjZ, hc, hy, hle, htk, tcC, goInt, c1, c2, k1, k6, k7, a0, a4, hB, ch, hqk]
      have ch' : ql A.a.toNat ≠ 0 := by omega
      exact ⟨by simp [whyP, c1, c2, ch', k7], hE _ _ _ _⟩
  · simp -implicitDefEqProofs (maxDischargeDepth := 6) (maxSteps := 1000000) only [go_sem, ↓reduceIte, Nat.reduceLT, Nat.reduceLeDiff, Nat.reduceEqDiff, Nat.reduceAdd, Nat.reduceMul, Nat.reduceSub, Nat.reduceBEq, reduceCtorEq, Int.reduceEq, Int.reduceLT, Int.reduceLE, Int.reduceNeg, Int.reduceToNat, hr, hx, ht, hiZ, hi0, hoc, hi, hrb, hbb, hne, hne', nv, loads_eq, hrl, hbl, hcl, hnb, e, hat, hj0, hjZ, hc, hy, hle, htk, tcC, goInt, c1, c2, k1, k6, k7]
    exact ⟨by simp [whyP, c1, c2, k1, k6, k7], hE _ _ _ _⟩
end Go.Am.T
namespace Go.Am.T
open Go Go.Am Go.Proofs.Ythanhcpnhionaaa Go.Proofs
structure RM where
  own : Nat → Option Role
  b : Nat
  pre : List Value
  T : Nat → TcV
  V : StV
structure RfX (H : Heap) (r : Nat) (M : RM) (N : Nat) (A : Nat → List Act) (C : Nat → List Nat) (Q : Nat → List Int) : Prop where
  wf : WF H
  st : H.get r = some (stB M.V)
  ro : M.own r = some .run
  rb : base0 ≤ r
  lt : ∀ b, M.own b ≠ none → b < H.next
  ts : N ≠ 0 → M.V.tasks = .slice (some ⟨M.b, M.pre.length, none⟩) N openCap ∧ M.own M.b = some .arr ∧ base0 ≤ M.b ∧ H.get M.b = some (arB M.pre M.T N)
  ts0 : N = 0 → ∃ a c, M.V.tasks = .slice a 0 c
  acts : ∀ i, i < N → ∃ a c, (M.T i).acts = .slice a (A i).length c ∧ (A i ≠ [] → c ≠ 0 ∧ ∃ b o x, a = some ⟨b, o, none⟩ ∧ H.get b = some x ∧ M.own b = none ∧
    ∀ j (h : j < (A i).length), o + j * 4 + 4 ≤ x.cells.length ∧ (x.cells.drop (o + j * 4)).take 4 = ((A i)[j]).cells)
  line : ∀ j, j < 4 → OwnL (fun b => M.own b = some (.cond j)) H 1 3 (M.V.lines j) (C j).length ((C j).map nv)
  q : ∀ j, j < 4 → OwnL (fun b => M.own b = some (.queue j)) H 1 2 (M.V.qs j) (Q j).length ((Q j).map iv)
structure FrmR (H : Heap) (M : RM) (H' : Heap) (M' : RM) : Prop where
  le : H.next ≤ H'.next
  keep : ∀ b x, H.get b = some x → M.own b = none ∨ M.own b = some .trace → H'.get b = some x ∧ M'.own b = M.own b
theorem FrmR.refl {H : Heap} {M : RM} : FrmR H M H M := ⟨Nat.le_refl _, fun _ _ h _ => ⟨h, rfl⟩⟩
theorem FrmR.trans {H H1 H2 : Heap} {M M1 M2 : RM} (h : FrmR H M H1 M1) (k : FrmR H1 M1 H2 M2) : FrmR H M H2 M2 :=
  ⟨Nat.le_trans h.le k.le, fun b x hb hm => let ⟨h1, h2⟩ := h.keep b x hb hm; let ⟨k1, k2⟩ := k.keep b x h1 (by rw [h2]; exact hm); ⟨k1, k2.trans h2⟩⟩
section
variable {H H' : Heap} {r N : Nat} {M : RM} {A : Nat → List Act} {C : Nat → List Nat} {Q : Nat → List Int}
theorem RfX.actsAt (h : RfX H r M N A C Q) {i : Nat} (hi : i < N) : ActsAt H (M.T i).acts (A i) := by
  obtain ⟨a, c, e, k⟩ := h.acts i hi
  refine ⟨a, c, e, fun hl => ?_⟩
  obtain ⟨hc, b, o, x, h1, h2, _, h4⟩ := k hl
  exact ⟨hc, b, o, x, h1, h2, h4⟩
theorem RfX.mv (h : RfX H r M N A C Q) {M' : RM} {C' : Nat → List Nat} {Q' : Nat → List Int} (wf : WF H') (le : H.next ≤ H'.next) (st : H'.get r = some (stB M'.V)) (own : ∀ b, b < H.next → M'.own b = M.own b) (lt : ∀ b, M'.own b ≠ none → b < H'.next)
    (none_ : ∀ b x, H.get b = some x → M.own b = none ∨ M.own b = some .trace → H'.get b = some x) (eb : M'.b = M.b) (ep : M'.pre = M.pre) (et : M'.V.tasks = M.V.tasks) (ar : N ≠ 0 → H'.get M.b = some (arB M.pre M'.T N)) (ea : ∀ i, i < N → (M'.T i).acts = (M.T i).acts)
    (line : ∀ j, j < 4 → OwnL (fun b => M'.own b = some (.cond j)) H' 1 3 (M'.V.lines j) (C' j).length ((C' j).map nv)) (q : ∀ j, j < 4 → OwnL (fun b => M'.own b = some (.queue j)) H' 1 2 (M'.V.qs j) (Q' j).length ((Q' j).map iv)) :
    RfX H' r M' N A C' Q' ∧ FrmR H M H' M' := by
  refine ⟨⟨wf, st, (own r (h.wf.lt h.st)).trans h.ro, h.rb, lt, fun hN => ?_, fun hN => by rw [et]; exact h.ts0 hN, fun i hi => ?_, line, q⟩, ⟨le, fun b x hb hm => ⟨none_ b x hb hm, own b (h.wf.lt hb)⟩⟩⟩
  · obtain ⟨h1, h2, h3, h4⟩ := h.ts hN
    rw [et, eb, ep]
    exact ⟨h1, (own _ (h.wf.lt h4)).trans h2, h3, ar hN⟩
  · obtain ⟨a, c, e, k⟩ := h.acts i hi
    rw [ea i hi]
    refine ⟨a, c, e, fun hl => ?_⟩
    obtain ⟨hc, b, o, x, h1, h2, h3, h4⟩ := k hl
    have hlt := h.wf.lt h2
    exact ⟨hc, b, o, x, h1, none_ b x h2 (.inl h3), (own b hlt).trans h3, h4⟩
theorem RfX.ext (h : RfX H r M N A C Q) (e : Ext H H') : RfX H' r M N A C Q ∧ FrmR H M H' M :=
  h.mv e.wf e.le (e.of h.wf h.st) (fun _ _ => rfl) (fun b hb => Nat.lt_of_lt_of_le (h.lt b hb) e.le) (fun b x hb _ => e.of h.wf hb) rfl rfl rfl (fun hN => e.of h.wf (h.ts hN).2.2.2) (fun _ _ => rfl)
    (fun j hj => (h.line j hj).frame fun b x hb hg => ⟨hb, e.of h.wf hg⟩) (fun j hj => (h.q j hj).frame fun b x hb hg => ⟨hb, e.of h.wf hg⟩)
theorem RfX.ne (h : RfX H r M N A C Q) (hN : N ≠ 0) : r ≠ M.b := by
  intro e
  have := (h.ts hN).2.1
  rw [← e, h.ro] at this; cases this
theorem RfX.u0 (h : RfX H r M N A C Q) (hN : N ≠ 0) : U2 H H r M.b (stB M.V) (arB M.pre M.T N) :=
  let ⟨_, _, h3, h4⟩ := h.ts hN
  U2.refl h.wf h.rb h3 (h.ne hN) h.st h4
theorem RfX.u2 (h : RfX H r M N A C Q) (hN : N ≠ 0) {V' : StV} {T' : Nat → TcV} (u : U2 H H' r M.b (stB V') (arB M.pre T' N)) (et : V'.tasks = M.V.tasks) (el : V'.lines = M.V.lines) (eq : V'.qs = M.V.qs) (ea : ∀ i, i < N → (T' i).acts = (M.T i).acts) :
    RfX H' r { M with V := V', T := T' } N A C Q ∧ FrmR H M H' { M with V := V', T := T' } := by
  have hb := (h.ts hN).2.1
  have ho : ∀ c x, H.get c = some x → M.own c ≠ some .run → M.own c ≠ some .arr → H'.get c = some x := by
    intro c x hc h1 h2
    rw [u.other c (h.wf.lt hc) (by intro e; subst e; exact h1 h.ro) (by intro e; subst e; exact h2 hb)]; exact hc
  refine h.mv u.wf u.le u.gr (fun _ _ => rfl) (fun b hb => Nat.lt_of_lt_of_le (h.lt b hb) u.le) (fun c x hc hm => ho c x hc (by rcases hm with hm | hm <;> (rw [hm]; simp)) (by rcases hm with hm | hm <;> (rw [hm]; simp))) rfl rfl et (fun _ => u.gb) ea ?_ ?_
  · intro j hj
    show OwnL _ H' 1 3 (V'.lines j) _ _
    rw [el]
    exact (h.line j hj).frame fun b x hb' hg => ⟨hb', ho b x hg (by rw [hb']; simp) (by rw [hb']; simp)⟩
  · intro j hj
    show OwnL _ H' 1 2 (V'.qs j) _ _
    rw [eq]
    exact (h.q j hj).frame fun b x hb' hg => ⟨hb', ho b x hg (by rw [hb']; simp) (by rw [hb']; simp)⟩
theorem RfX.line' (h : RfX H r M N A C Q) {k nb : Nat} (hk : k < 4) (hnb : H.next ≤ nb) (hnb2 : nb < H'.next) {v' : Value} {l' : List Nat} (wf : WF H') (le : H.next ≤ H'.next) (st : H'.get r = some (stB { M.V with lines := upd M.V.lines k v' }))
    (other : ∀ c x, H.get c = some x → c ≠ r → M.own c ≠ some (.cond k) → H'.get c = some x) (hl : OwnL (fun b => b = nb) H' 1 3 v' l'.length (l'.map nv)) :
    RfX H' r { M with own := upd M.own nb (some (.cond k)), V := { M.V with lines := upd M.V.lines k v' } } N A (upd C k l') Q ∧ FrmR H M H' { M with own := upd M.own nb (some (.cond k)), V := { M.V with lines := upd M.V.lines k v' } } := by
  have hou : ∀ b, b < H.next → upd M.own nb (some (.cond k)) b = M.own b := fun b hb => upd_ne (by omega)
  refine h.mv wf le st hou ?_ ?_ rfl rfl rfl ?_ (fun _ _ => rfl) ?_ ?_
  · intro b hb
    by_cases e : b = nb
    · omega
    · have hb : upd M.own nb (some (.cond k)) b ≠ none := hb
      rw [upd_ne e] at hb
      have := h.lt b hb; omega
  · intro b x hb hm
    exact other b x hb (by intro e; subst e; rw [h.ro] at hm; rcases hm with hm | hm <;> cases hm) (by rcases hm with hm | hm <;> (rw [hm]; simp))
  · intro hN
    obtain ⟨_, h2, _, h4⟩ := h.ts hN
    exact other _ _ h4 (h.ne hN).symm (by rw [h2]; simp)
  · intro j hj
    show OwnL _ H' 1 3 (upd M.V.lines k v' j) (upd C k l' j).length ((upd C k l' j).map nv)
    by_cases e : j = k
    · subst e
      rw [upd_same, upd_same]
      exact hl.frame fun b x hb hg => ⟨by rw [hb]; exact upd_same, hg⟩
    · rw [upd_ne e, upd_ne e]
      exact (h.line j hj).frame fun b x hb hg => ⟨(hou b (h.wf.lt hg)).trans hb, other b x hg (by intro e2; subst e2; rw [h.ro] at hb; cases hb) (by rw [hb]; simp; exact e)⟩
  · intro j hj
    exact (h.q j hj).frame fun b x hb hg => ⟨(hou b (h.wf.lt hg)).trans hb, other b x hg (by intro e2; subst e2; rw [h.ro] at hb; cases hb) (by rw [hb]; simp)⟩
theorem RfX.q' (h : RfX H r M N A C Q) {k nb : Nat} (hk : k < 4) (hnb : H.next ≤ nb) (hnb2 : nb < H'.next) {v' : Value} {l' : List Int} (wf : WF H') (le : H.next ≤ H'.next) (st : H'.get r = some (stB { M.V with qs := upd M.V.qs k v' }))
    (other : ∀ c x, H.get c = some x → c ≠ r → M.own c ≠ some (.queue k) → H'.get c = some x) (hl : OwnL (fun b => b = nb) H' 1 2 v' l'.length (l'.map iv)) :
    RfX H' r { M with own := upd M.own nb (some (.queue k)), V := { M.V with qs := upd M.V.qs k v' } } N A C (upd Q k l') ∧ FrmR H M H' { M with own := upd M.own nb (some (.queue k)), V := { M.V with qs := upd M.V.qs k v' } } := by
  have hou : ∀ b, b < H.next → upd M.own nb (some (.queue k)) b = M.own b := fun b hb => upd_ne (by omega)
  refine h.mv wf le st hou ?_ ?_ rfl rfl rfl ?_ (fun _ _ => rfl) ?_ ?_
  · intro b hb
    by_cases e : b = nb
    · omega
    · have hb : upd M.own nb (some (.queue k)) b ≠ none := hb
      rw [upd_ne e] at hb
      have := h.lt b hb; omega
  · intro b x hb hm
    exact other b x hb (by intro e; subst e; rw [h.ro] at hm; rcases hm with hm | hm <;> cases hm) (by rcases hm with hm | hm <;> (rw [hm]; simp))
  · intro hN
    obtain ⟨_, h2, _, h4⟩ := h.ts hN
    exact other _ _ h4 (h.ne hN).symm (by rw [h2]; simp)
  · intro j hj
    exact (h.line j hj).frame fun b x hb hg => ⟨(hou b (h.wf.lt hg)).trans hb, other b x hg (by intro e2; subst e2; rw [h.ro] at hb; cases hb) (by rw [hb]; simp)⟩
  · intro j hj
    show OwnL _ H' 1 2 (upd M.V.qs k v' j) (upd Q k l' j).length ((upd Q k l' j).map iv)
    by_cases e : j = k
    · subst e
      rw [upd_same, upd_same]
      exact hl.frame fun b x hb hg => ⟨by rw [hb]; exact upd_same, hg⟩
    · rw [upd_ne e, upd_ne e]
      exact (h.q j hj).frame fun b x hb hg => ⟨(hou b (h.wf.lt hg)).trans hb, other b x hg (by intro e2; subst e2; rw [h.ro] at hb; cases hb) (by rw [hb]; simp; exact e)⟩
theorem RfX.appL (h : RfX H r M N A C Q) {k : Nat} (hk : k < 4) {i : Nat} {a : Option Addr} {c : Nat} (hv : M.V.lines k = .slice a (C k).length c) {nb : Nat} (hn : H.get nb = some ⟨3, 0, false, [nv i]⟩) (hb : (C k).length ≤ 1000000) :
    ∃ H6, appS H 3 1 8 a (C k).length c (.slice (some ⟨nb, 0, none⟩) 1 1) = some (.slice (some ⟨H.next, 0, none⟩) ((C k).length + 1) openCap, H6) ∧ WF H6 ∧ H6.next = H.next + 1 ∧ (∀ c x, H.get c = some x → M.own c ≠ some (.cond k) → H6.get c = some x) ∧
      OwnL (fun b => b = H.next) H6 1 3 (.slice (some ⟨H.next, 0, none⟩) ((C k).length + 1) openCap) (C k ++ [i]).length ((C k ++ [i]).map nv) := by
  have hO := h.line k hk
  rw [hv] at hO
  have hwd : WF (delV H (.slice a (C k).length c)) := by
    rcases hO with ⟨e, _⟩ | ⟨b, o, pre, e, _⟩
    · rw [e]; exact h.wf
    · rw [e]; exact h.wf.del _
  refine ⟨_, appS_own (vs := [nv i]) (x := ⟨3, 0, false, [nv i]⟩) hO rfl hn rfl rfl (by omega) rfl (by omega) (by omega), hwd.alloc _, ?_, ?_, ?_⟩
  · show (delV H _).next + 1 = _
    rw [next_delV]
  · intro b x hg hm
    have hlt := h.wf.lt hg
    rw [get_alloc_ne (by rw [next_delV]; omega)]
    rcases hO with ⟨e, _⟩ | ⟨b', o, pre, e, _, h3, _⟩
    · rw [e]; exact hg
    · rw [e]
      show (H.del b').get b = _
      rw [get_del_ne]; exact hg
      intro e2; subst e2; exact hm h3
  · have hnb := h.wf.1
    rw [List.length_append, List.map_append]
    exact .inr ⟨H.next, 0, [], rfl, hnb, rfl, by rw [get_alloc_at (by rw [next_delV]; exact hnb) (by rw [next_delV])]; rfl, rfl, by simp⟩
theorem RfX.appQ (h : RfX H r M N A C Q) {k : Nat} (hk : k < 4) {i : Int} {a : Option Addr} {c : Nat} (hv : M.V.qs k = .slice a (Q k).length c) {nb : Nat} (hn : H.get nb = some ⟨2, 0, false, [iv i]⟩) (hb : (Q k).length ≤ 1000000) :
    ∃ H6, appS H 2 1 8 a (Q k).length c (.slice (some ⟨nb, 0, none⟩) 1 1) = some (.slice (some ⟨H.next, 0, none⟩) ((Q k).length + 1) openCap, H6) ∧ WF H6 ∧ H6.next = H.next + 1 ∧ (∀ c x, H.get c = some x → M.own c ≠ some (.queue k) → H6.get c = some x) ∧
      OwnL (fun b => b = H.next) H6 1 2 (.slice (some ⟨H.next, 0, none⟩) ((Q k).length + 1) openCap) (Q k ++ [i]).length ((Q k ++ [i]).map iv) := by
  have hO := h.q k hk
  rw [hv] at hO
  have hwd : WF (delV H (.slice a (Q k).length c)) := by
    rcases hO with ⟨e, _⟩ | ⟨b, o, pre, e, _⟩
    · rw [e]; exact h.wf
    · rw [e]; exact h.wf.del _
  refine ⟨_, appS_own (vs := [iv i]) (x := ⟨2, 0, false, [iv i]⟩) hO rfl hn rfl rfl (by omega) rfl (by omega) (by omega), hwd.alloc _, ?_, ?_, ?_⟩
  · show (delV H _).next + 1 = _
    rw [next_delV]
  · intro b x hg hm
    have hlt := h.wf.lt hg
    rw [get_alloc_ne (by rw [next_delV]; omega)]
    rcases hO with ⟨e, _⟩ | ⟨b', o, pre, e, _, h3, _⟩
    · rw [e]; exact hg
    · rw [e]
      show (H.del b').get b = _
      rw [get_del_ne]; exact hg
      intro e2; subst e2; exact hm h3
  · have hnb := h.wf.1
    rw [List.length_append, List.map_append]
    exact .inr ⟨H.next, 0, [], rfl, hnb, rfl, by rw [get_alloc_at (by rw [next_delV]; exact hnb) (by rw [next_delV])]; rfl, rfl, by simp⟩
end
end Go.Am.T
namespace Go.Am.T
open Go Go.Am Go.Proofs.Ythanhcpnhionaaa Go.Proofs
def RfP (H : Heap) (r : Nat) (M : RM) (N : Nat) (A : Nat → List Act) (T' : Nat → TcV) (hd : Nat → Int) (rg : Nat → Int) (room last : Int) (C' : Nat → List Nat) (Q' : Nat → List Int) (H' : Heap) : Prop :=
  ∃ M', RfX H' r M' N A C' Q' ∧ FrmR H M H' M' ∧ M'.T = T' ∧ M'.V.held = hd ∧ M'.V.regs = rg ∧ M'.V.room = room ∧ M'.V.last = last ∧ M'.b = M.b ∧ M'.pre = M.pre
theorem upd_acts {T : Nat → TcV} {i : Nat} {t : TcV} (h : t.acts = (T i).acts) (j : Nat) : (upd T i t j).acts = (T j).acts := by
  by_cases e : j = i
  · subst e; rw [upd_same]; exact h
  · rw [upd_ne e]
theorem rwait_W {H : Heap} {r N : Nat} {M : RM} {A : Nat → List Act} {C : Nat → List Nat} {Q : Nat → List Int} (h : RfX H r M N A C Q) {i : Nat} (hi : i < N) (hiN : i ≤ 1000000) {a : Act} (ha0 : 0 ≤ a.a) (ha4 : a.a < 4) (hb0 : 0 ≤ a.b) (hb4 : a.b < 4) (hbd : (C a.a.toNat).length ≤ 1000000) :
    CW Try.prog 38 #[.pointer (some ⟨r, 0, none⟩), nv i, .agg a.cells.toArray] H fun x H' =>
      if (M.T i).wait = 2 then x = .ret (.tuple #[.bool true, .bool true]) ∧ RfP H r M N A (upd M.T i { M.T i with wait := 0 }) (upd M.V.held a.b.toNat ((i : Int) + 1)) M.V.regs M.V.room M.V.last C Q H'
      else if M.V.held a.b.toNat ≠ (i : Int) + 1 then x = .ret (.tuple #[.bool false, .bool false]) ∧ RfP H r M N A M.T M.V.held M.V.regs M.V.room M.V.last C Q H'
      else x = .ret (.tuple #[.bool false, .bool true]) ∧ RfP H r M N A (upd M.T i { M.T i with wait := 1 }) (upd M.V.held a.b.toNat 0) M.V.regs M.V.room M.V.last (upd C a.a.toNat (C a.a.toNat ++ [i])) Q H' := by
  refine CW_k (n := 66) if38 rfl ?_
  unfold C38
  have hN : N ≠ 0 := by omega
  obtain ⟨hts, hbo, hbb, hx⟩ := h.ts hN
  have hr := h.st
  have hrb := h.rb
  have hne := h.ne hN
  have hne' := hne.symm
  have hiZ : (i : Int) < (N : Int) := by omega
  have hi0 : (0 : Int) ≤ (i : Int) := by omega
  have hoc : ¬ openCap = 0 := by unfold openCap; omega
  have hrl := h.wf.lt hr
  have hbl := h.wf.lt hx
  have hnb := h.wf.1
  have hA : a.a.toNat < 4 := by omega
  have hB : a.b.toNat < 4 := by omega
  have hw1 : IntKind.i64.wrap ((i : Int) + 1) = (i : Int) + 1 := IntWalk.i64_in _ (by omega)
  have hE := (Ext.refl h.wf).alloc (⟨47, 0, false, a.cells⟩ : Blk)
  obtain ⟨hX, hF⟩ := h.ext hE
  by_cases c1 : (M.T i).wait = 2
  · simp -implicitDefEqProofs (maxDischargeDepth := 6) (maxSteps := 1000000) only [go_sem, ↓reduceIte, Nat.reduceLT, Nat.reduceLeDiff, Nat.reduceEqDiff, Nat.reduceAdd, Nat.reduceMul, Nat.reduceSub, Nat.reduceBEq, reduceCtorEq, Int.reduceEq, Int.reduceLT, Int.reduceLE, Int.reduceNeg, Int.reduceToNat, hr, hx, hts, hiZ, hi0, hoc, hi, hrb, hbb, hne, hne', nv, hrl, hbl, hnb, hb0, hb4, hB, hw1, c1]
    have u := (((h.u0 hN).ext hE).ext (Ext.bump (Ext.refl hE.wf) 10)).setR (stB { M.V with held := upd M.V.held a.b.toNat ((i : Int) + 1) })
    obtain ⟨hX2, hF2⟩ := h.u2 hN (u.setB (arB M.pre (upd M.T i { M.T i with wait := 0 }) N)) rfl rfl rfl (fun j _ => upd_acts (by rfl) j)
    rw [← hts]
    exact ⟨_, hX2, hF2, rfl, rfl, rfl, rfl, rfl, rfl, rfl⟩
  by_cases c2 : M.V.held a.b.toNat = (i : Int) + 1
  · obtain ⟨ca, cc, hcv⟩ := (h.line _ hA).sl
    simp -implicitDefEqProofs (maxDischargeDepth := 6) (maxSteps := 1000000) only [go_sem, ↓reduceIte, Nat.reduceLT, Nat.reduceLeDiff, Nat.reduceEqDiff, Nat.reduceAdd, Nat.reduceMul, Nat.reduceSub, Nat.reduceBEq, reduceCtorEq, Int.reduceEq, Int.reduceLT, Int.reduceLE, Int.reduceNeg, Int.reduceToNat, hr, hx, hts, hiZ, hi0, hoc, hi, hrb, hbb, hne, hne', nv, hrl, hbl, hnb, hb0, hb4, hB, hw1, c1, c2, ha0, ha4, hA, hcv]
    refine Wk_w_c rfl rfl ?_
    simp -implicitDefEqProofs (maxDischargeDepth := 6) (maxSteps := 1000000) only [go_sem, ↓reduceIte, Nat.reduceLT, Nat.reduceLeDiff, Nat.reduceEqDiff, Nat.reduceAdd, Nat.reduceMul, Nat.reduceSub, Nat.reduceBEq, reduceCtorEq, Int.reduceEq, Int.reduceLT, Int.reduceLE, Int.reduceNeg, Int.reduceToNat, hr, hx, hts, hiZ, hi0, hoc, hi, hrb, hbb, hne, hne', nv, hrl, hbl, hnb, hb0, hb4, hB, hw1, c1, c2, ha0, ha4, hA, hcv]
    have u := (((h.u0 hN).ext hE).ext (Ext.bump (Ext.refl hE.wf) 8)).setR (stB { M.V with held := upd M.V.held a.b.toNat 0 })
    have u2 := u.setB (arB M.pre (upd M.T i { M.T i with wait := 1 }) N)
    obtain ⟨hX2, hF2⟩ := h.u2 hN u2 rfl rfl rfl (fun j _ => upd_acts (by rfl) j)
    obtain ⟨hX3, hF3⟩ := hX2.ext ((Ext.bump (Ext.refl hX2.wf) 18).set (b := H.next + 1 + 8 + 11) (by simp only [next_set, next_bump, next_alloc]; omega) (by simp only [next_bump, next_set, next_alloc]; omega) ⟨3, 0, false, [.int .i64 (i : Int)]⟩)
    obtain ⟨H6, ha6, hw6, hn6, hk6, hO6⟩ := hX3.appL (k := a.a.toNat) (i := i) (nb := H.next + 1 + 8 + 11) hA hcv (get_set_eq (by omega)) hbd
    rw [← hts]
    refine cK_vh ha6 ?_
    have hr6 : H6.get r = some (stB { M.V with held := upd M.V.held a.b.toNat 0 }) := hk6 r _ hX3.st (by show M.own r ≠ _; rw [h.ro]; simp)
    have hcell := hk6 H.next ⟨47, 0, false, a.cells⟩ (by simp -implicitDefEqProofs (maxDischargeDepth := 6) (maxSteps := 1000000) only [go_sem, ↓reduceIte, Nat.reduceLT, Nat.reduceLeDiff, Nat.reduceEqDiff, Nat.reduceAdd, Nat.reduceMul, Nat.reduceSub, Nat.reduceBEq, reduceCtorEq, Int.reduceEq, Int.reduceLT, Int.reduceLE, Int.reduceNeg, Int.reduceToNat, hnb, hrl, hbl, hne, hne']) (by
      have := h.lt H.next; by_cases e : M.own H.next = none
      · show M.own H.next ≠ _; rw [e]; simp
      · exact absurd (this e) (by omega))
    have hn6' := hw6.1
    simp -implicitDefEqProofs (maxDischargeDepth := 6) (maxSteps := 1000000) only [go_sem, ↓reduceIte, Nat.reduceLT, Nat.reduceLeDiff, Nat.reduceEqDiff, Nat.reduceAdd, Nat.reduceMul, Nat.reduceSub, Nat.reduceBEq, reduceCtorEq, Int.reduceEq, Int.reduceLT, Int.reduceLE, Int.reduceNeg, Int.reduceToNat, hr6, hcell, hn6']
    refine cK_some ?_ ?_
    · simp -implicitDefEqProofs (maxDischargeDepth := 6) (maxSteps := 1000000) only [go_sem, ↓reduceIte, Nat.reduceLT, Nat.reduceLeDiff, Nat.reduceEqDiff, Nat.reduceAdd, Nat.reduceMul, Nat.reduceSub, Nat.reduceBEq, reduceCtorEq, Int.reduceEq, Int.reduceLT, Int.reduceLE, Int.reduceNeg, Int.reduceToNat, reK, hcell, hr6, ha0, ha4, hA, hts]
    · simp -implicitDefEqProofs (maxDischargeDepth := 6) (maxSteps := 1000000) only [go_sem, ↓reduceIte, Nat.reduceLT, Nat.reduceLeDiff, Nat.reduceEqDiff, Nat.reduceAdd, Nat.reduceMul, Nat.reduceSub, Nat.reduceBEq, reduceCtorEq, Int.reduceEq, Int.reduceLT, Int.reduceLE, Int.reduceNeg, Int.reduceToNat, hr6, hcell, hn6', ha0, ha4, hA, hrb]
      refine Wk_w_c rfl rfl ?_
      simp -implicitDefEqProofs (maxDischargeDepth := 6) (maxSteps := 1000000) only [go_sem, ↓reduceIte, Nat.reduceLT, Nat.reduceLeDiff, Nat.reduceEqDiff, Nat.reduceAdd, Nat.reduceMul, Nat.reduceSub, Nat.reduceBEq, reduceCtorEq, Int.reduceEq, Int.reduceLT, Int.reduceLE, Int.reduceNeg, Int.reduceToNat, hr6, hcell, hn6', ha0, ha4, hA, hrb]
      rw [if_neg (by simp)]
      simp only [next_bump, next_set, next_alloc] at hn6 hO6
      obtain ⟨hX7, hF7⟩ := hX3.line' (k := a.a.toNat) (nb := H.next + 1 + 8 + 18) (v' := .slice (some ⟨H.next + 1 + 8 + 18, 0, none⟩) ((C a.a.toNat).length + 1) openCap) (l' := C a.a.toNat ++ [i])
        (H' := H6.set r (stB { M.V with held := upd M.V.held a.b.toNat 0, lines := upd M.V.lines a.a.toNat (.slice (some ⟨H.next + 1 + 8 + 18, 0, none⟩) ((C a.a.toNat).length + 1) openCap) })) hA
        (by simp only [next_bump, next_set, next_alloc]; omega) (by simp only [next_set, hn6]; omega) (hw6.set (hw6.lt hr6) _) (by simp only [next_bump, next_set, next_alloc, hn6]; omega) (get_set_eq hrb)
        (fun c x hc h1 h2 => by rw [get_set_ne h1]; exact hk6 c x hc h2) (hO6.frame fun b x hb hg => ⟨hb, by rw [get_set_ne (by omega)]; exact hg⟩)
      exact ⟨_, hX7, (hF2.trans hF3).trans hF7, rfl, rfl, rfl, rfl, rfl, rfl, rfl⟩
  · simp -implicitDefEqProofs (maxDischargeDepth := 6) (maxSteps := 1000000) only [go_sem, ↓reduceIte, Nat.reduceLT, Nat.reduceLeDiff, Nat.reduceEqDiff, Nat.reduceAdd, Nat.reduceMul, Nat.reduceSub, Nat.reduceBEq, reduceCtorEq, Int.reduceEq, Int.reduceLT, Int.reduceLE, Int.reduceNeg, Int.reduceToNat, hr, hx, hts, hiZ, hi0, hoc, hi, hrb, hbb, hne, hne', nv, hrl, hbl, hnb, hb0, hb4, hB, hw1, c1, c2]
    exact ⟨M, hX, hF, rfl, rfl, rfl, rfl, rfl, rfl, rfl⟩
end Go.Am.T
namespace Go.Am.T
open Go Go.Am Go.Proofs.Ythanhcpnhionaaa Go.Proofs
def wakeT (T : Nat → TcV) : List Nat → Nat → TcV
  | [] => T
  | i :: l => wakeT (upd T i { T i with wait := 2 }) l
theorem wakeT_snoc (l : List Nat) : ∀ (T : Nat → TcV) (i : Nat), wakeT T (l ++ [i]) = upd (wakeT T l) i { wakeT T l i with wait := 2 } := by
  induction l with
  | nil => intro T i; rfl
  | cons j l ih => intro T i; exact ih _ i
theorem rwake_W {H : Heap} {r N : Nat} {M : RM} {A : Nat → List Act} {C : Nat → List Nat} {Q : Nat → List Int} (h : RfX H r M N A C Q) {c : Int} (h0 : 0 ≤ c) (h4 : c < 4) {n : Nat} (hn : n ≤ 1000) (hC : ∀ i ∈ C c.toNat, i < N) (hbd : (C c.toNat).length ≤ 1000000) :
    CW Try.prog 39 #[.pointer (some ⟨r, 0, none⟩), .int .i64 c, nv n] H fun x H' => x = .ret (.tuple #[]) ∧ RfP H r M N A (wakeT M.T ((C c.toNat).take n)) M.V.held M.V.regs M.V.room M.V.last (upd C c.toNat ((C c.toNat).drop n)) Q H' := by
  refine CW_k (n := 47) if39 rfl ?_
  unfold C39
  have hB : c.toNat < 4 := by omega
  simp -implicitDefEqProofs (maxDischargeDepth := 6) (maxSteps := 1000000) only [go_sem, ↓reduceIte, Nat.reduceLT, Nat.reduceLeDiff, Nat.reduceEqDiff, Nat.reduceAdd, Nat.reduceMul, Nat.reduceSub, Nat.reduceBEq, reduceCtorEq, Int.reduceEq, Int.reduceLT, Int.reduceLE, Int.reduceNeg, Int.reduceToNat, nv]
  refine Wk_loopF (fun m f G => ∃ k M', m = n - k ∧ k ≤ n ∧ k ≤ (C c.toNat).length ∧ f.get 0 = some (.pointer (some ⟨r, 0, none⟩)) ∧ f.get 1 = some (.int .i64 c) ∧ f.get 2 = some (nv (n - k)) ∧ RfX G r M' N A (upd C c.toNat ((C c.toNat).drop k)) Q ∧ FrmR H M G M' ∧ M'.T = wakeT M.T ((C c.toNat).take k) ∧ M'.V.held = M.V.held ∧ M'.V.regs = M.V.regs ∧ M'.V.room = M.V.room ∧ M'.V.last = M.V.last ∧ M'.b = M.b ∧ M'.pre = M.pre) n ?_ ?_
  · refine ⟨0, M, by omega, by omega, by omega, ?_, ?_, ?_, ?_, FrmR.refl, rfl, rfl, rfl, rfl, rfl, rfl, rfl⟩
    · simp -implicitDefEqProofs (maxDischargeDepth := 6) (maxSteps := 1000000) only [go_sem, ↓reduceIte, Nat.reduceLT, Nat.reduceLeDiff, Nat.reduceEqDiff, Nat.reduceAdd, Nat.reduceMul, Nat.reduceSub, Nat.reduceBEq, reduceCtorEq, Int.reduceEq, Int.reduceLT, Int.reduceLE, Int.reduceNeg, Int.reduceToNat, ]
    · simp -implicitDefEqProofs (maxDischargeDepth := 6) (maxSteps := 1000000) only [go_sem, ↓reduceIte, Nat.reduceLT, Nat.reduceLeDiff, Nat.reduceEqDiff, Nat.reduceAdd, Nat.reduceMul, Nat.reduceSub, Nat.reduceBEq, reduceCtorEq, Int.reduceEq, Int.reduceLT, Int.reduceLE, Int.reduceNeg, Int.reduceToNat, ]
    · simp only [Tr.get_put, Nat.reduceEqDiff, ↓reduceIte, nv]
      rfl
    · have e : upd C c.toNat ((C c.toNat).drop 0) = C := by
        funext j; unfold upd; split
        · rename_i e; rw [e]; rfl
        · rfl
      rw [e]; exact h
  rintro m f G ⟨k, M', rfl, hk, hkl, f0, f1, f2, hX, hF, eT, eh, er, eo, el, eb, ep⟩
  unfold L39_1
  have hrb := hX.rb
  have hr := hX.st
  have hOl := hX.line _ hB
  rw [upd_same] at hOl
  obtain ⟨la, lc, hlv⟩ := hOl.sl
  have hll : ((C c.toNat).drop k).length = (C c.toNat).length - k := List.length_drop
  have fin : ∀ G' x, (k = n ∨ k = (C c.toNat).length) → G' = G → x = CR.ret (.tuple #[]) → x = .ret (.tuple #[]) ∧ RfP H r M N A (wakeT M.T ((C c.toNat).take n)) M.V.held M.V.regs M.V.room M.V.last (upd C c.toNat ((C c.toNat).drop n)) Q G' := by
    rintro G' x hor rfl hx
    have e1 : (C c.toNat).take n = (C c.toNat).take k := by
      rcases hor with rfl | e
      · rfl
      · rw [List.take_of_length_le (by omega), List.take_of_length_le (by omega)]
    have e2 : (C c.toNat).drop n = (C c.toNat).drop k := by
      rcases hor with rfl | e
      · rfl
      · rw [List.drop_of_length_le (by omega), List.drop_of_length_le (by omega)]
    rw [e1, e2]
    exact ⟨hx, M', hX, hF, eT, eh, er, eo, el, eb, ep⟩
  by_cases c1 : k < n
  case neg =>
    have c1Z : ¬ (0 : Int) < ((n - k : Nat) : Int) := by omega
    simp -implicitDefEqProofs (maxDischargeDepth := 6) (maxSteps := 1000000) only [go_sem, ↓reduceIte, Nat.reduceLT, Nat.reduceLeDiff, Nat.reduceEqDiff, Nat.reduceAdd, Nat.reduceMul, Nat.reduceSub, Nat.reduceBEq, reduceCtorEq, Int.reduceEq, Int.reduceLT, Int.reduceLE, Int.reduceNeg, Int.reduceToNat, f0, f1, f2, nv, c1Z]
    exact (fin _ _ (.inl (by omega)) rfl rfl).2
  have c1Z : (0 : Int) < ((n - k : Nat) : Int) := by omega
  by_cases c2 : k < (C c.toNat).length
  case neg =>
    have c2Z : ¬ (0 : Int) < (((C c.toNat).drop k).length : Int) := by omega
    simp -implicitDefEqProofs (maxDischargeDepth := 6) (maxSteps := 1000000) only [go_sem, ↓reduceIte, Nat.reduceLT, Nat.reduceLeDiff, Nat.reduceEqDiff, Nat.reduceAdd, Nat.reduceMul, Nat.reduceSub, Nat.reduceBEq, reduceCtorEq, Int.reduceEq, Int.reduceLT, Int.reduceLE, Int.reduceNeg, Int.reduceToNat, f0, f1, f2, nv, c1Z, hr, h0, h4, hB, hlv, goInt, c2Z]
    exact (fin _ _ (.inr (by omega)) rfl rfl).2
  have c2Z : (0 : Int) < (((C c.toNat).drop k).length : Int) := by omega
  have hd : (C c.toNat).drop k = (C c.toNat)[k] :: (C c.toNat).drop (k + 1) := List.drop_eq_getElem_cons c2
  have hxN : (C c.toNat)[k] < N := hC _ (List.getElem_mem c2)
  have hN : N ≠ 0 := by omega
  obtain ⟨hts, hbo, hbb, hx⟩ := hX.ts hN
  have hne := hX.ne hN
  have hne' := hne.symm
  have hoc : ¬ openCap = 0 := by unfold openCap; omega
  have hxZ : ((C c.toNat)[k] : Int) < (N : Int) := by omega
  have hx0 : (0 : Int) ≤ ((C c.toNat)[k] : Int) := by omega
  obtain ⟨lb, lo, lc', ly, hv, hlc, hly, hlx⟩ := hOl.rd.at_ (i := 0) (by rw [List.length_map]; omega)
  rw [hlv] at hv
  simp only [Value.slice.injEq, List.length_map, true_and] at hv
  obtain ⟨rfl, rfl⟩ := hv
  simp only [List.getElem_map, nv, hd, List.getElem_cons_zero, Nat.add_zero] at hlx
  have hrl := hX.wf.lt hr
  have hbl := hX.wf.lt hx
  have hll2 := hX.wf.lt hly
  have u := ((hX.u0 hN).ext (Ext.bump (Ext.refl hX.wf) 16)).setB (arB M'.pre (upd M'.T (C c.toNat)[k] { M'.T (C c.toNat)[k] with wait := 2 }) N)
  obtain ⟨hX1, hF1⟩ := hX.u2 hN u rfl rfl rfl (fun j _ => upd_acts (by rfl) j)
  have hO1 := hX1.line _ hB
  rw [upd_same] at hO1
  have hlv1 : ({ M' with V := M'.V, T := upd M'.T (C c.toNat)[k] { M'.T (C c.toNat)[k] with wait := 2 } } : RM).V.lines c.toNat = .slice (some ⟨lb, lo, none⟩) ((C c.toNat).drop k).length lc := hlv
  rw [hlv1] at hO1
  obtain ⟨v1, hs1, hO1'⟩ := sliceS_post (k := 1) hO1 (by omega) (by omega)
  obtain ⟨a1, k1, rfl⟩ := hO1'.sl
  have hs1 : sliceS ((bump G 16).set M'.b (arB M'.pre (upd M'.T (C c.toNat)[k] { M'.T (C c.toNat)[k] with wait := 2 }) N)) 1 (some ⟨lb, lo, none⟩) ((C c.toNat).drop k).length lc (some (.int .i64 1)) none none = some (.slice a1 (((C c.toNat).drop k).length - 1) k1) := hs1
  simp -implicitDefEqProofs (maxDischargeDepth := 6) (maxSteps := 1000000) only [go_sem, ↓reduceIte, Nat.reduceLT, Nat.reduceLeDiff, Nat.reduceEqDiff, Nat.reduceAdd, Nat.reduceMul, Nat.reduceSub, Nat.reduceBEq, reduceCtorEq, Int.reduceEq, Int.reduceLT, Int.reduceLE, Int.reduceNeg, Int.reduceToNat, f0, f1, f2, nv, c1Z, hr, h0, h4, hB, hlv, goInt, c2Z, hlc, hly, hlx, hts, hoc, hxZ, hx0, hx, hxN, hrb, hbb, hne, hne', hrl, hbl, Nat.add_zero, hs1]
  have hb15 := Ext.bump (Ext.refl hX1.wf) 15
  obtain ⟨hX2, hF2⟩ := hX1.ext hb15
  obtain ⟨v3, H3, ha3, hE3, hO3⟩ := appNil (bytes := 8) hX2.wf (hO1'.frame (p' := fun _ => True) fun b x hb hg => ⟨trivial, hb15.of hX1.wf hg⟩) (by omega) (by omega)
  refine Wk_vh ha3 ?_
  rw [hd] at hO3
  simp only [List.length_cons, Nat.add_sub_cancel, List.map_cons, Nat.one_mul, List.drop_succ_cons, List.drop_zero] at hO3
  obtain ⟨a3, k3, rfl⟩ := hO3.sl
  have hr3 : H3.get r = some (stB M'.V) := hE3.of hX2.wf hX2.st
  have hw1 : IntKind.i64.wrap (((n - k : Nat) : Int) - 1) = ((n - (k + 1) : Nat) : Int) := by
    rw [show ((n - k : Nat) : Int) - 1 = ((n - (k + 1) : Nat) : Int) by omega]; exact IntWalk.i64_in _ (by omega)
  simp -implicitDefEqProofs (maxDischargeDepth := 6) (maxSteps := 1000000) only [go_sem, ↓reduceIte, Nat.reduceLT, Nat.reduceLeDiff, Nat.reduceEqDiff, Nat.reduceAdd, Nat.reduceMul, Nat.reduceSub, Nat.reduceBEq, reduceCtorEq, Int.reduceEq, Int.reduceLT, Int.reduceLE, Int.reduceNeg, Int.reduceToNat, hr3, h0, h4, hB, hrb, f0, f1, f2, nv, hw1]
  have hrl3 := hE3.wf.lt hr3
  have key : ∃ M3, RfX (H3.set r (stB { M'.V with lines := upd M'.V.lines c.toNat (.slice a3 ((C c.toNat).drop (k + 1)).length k3) })) r M3 N A (upd (upd C c.toNat ((C c.toNat).drop k)) c.toNat ((C c.toNat).drop (k + 1))) Q ∧
      FrmR ((bump G 16).set M'.b (arB M'.pre (upd M'.T (C c.toNat)[k] { M'.T (C c.toNat)[k] with wait := 2 }) N)) { M' with V := M'.V, T := upd M'.T (C c.toNat)[k] { M'.T (C c.toNat)[k] with wait := 2 } } (H3.set r (stB { M'.V with lines := upd M'.V.lines c.toNat (.slice a3 ((C c.toNat).drop (k + 1)).length k3) })) M3 ∧
      M3.T = upd M'.T (C c.toNat)[k] { M'.T (C c.toNat)[k] with wait := 2 } ∧ M3.V.held = M'.V.held ∧ M3.V.regs = M'.V.regs ∧ M3.V.room = M'.V.room ∧ M3.V.last = M'.V.last ∧ M3.b = M'.b ∧ M3.pre = M'.pre := by
    have hn3 := hE3.le
    have hnx : (bump ((bump G 16).set M'.b (arB M'.pre (upd M'.T (C c.toNat)[k] { M'.T (C c.toNat)[k] with wait := 2 }) N)) 15).next = ((bump G 16).set M'.b (arB M'.pre (upd M'.T (C c.toNat)[k] { M'.T (C c.toNat)[k] with wait := 2 }) N)).next + 15 := by simp only [next_bump, next_set]
    rw [hnx] at hn3
    have hg1 : ((bump G 16).set M'.b (arB M'.pre (upd M'.T (C c.toNat)[k] { M'.T (C c.toNat)[k] with wait := 2 }) N)).next = G.next + 16 := by simp only [next_bump, next_set]
    have hof := hO3
    have build : ∀ nb, ((bump G 16).set M'.b (arB M'.pre (upd M'.T (C c.toNat)[k] { M'.T (C c.toNat)[k] with wait := 2 }) N)).next ≤ nb → nb < H3.next → OwnL (fun b => b = nb) H3 1 3 (.slice a3 ((C c.toNat).drop (k + 1)).length k3) ((C c.toNat).drop (k + 1)).length (((C c.toNat).drop (k + 1)).map nv) → _ := fun nb q1 q2 q3 =>
      hX1.line' (k := c.toNat) (nb := nb) (l' := (C c.toNat).drop (k + 1)) (H' := H3.set r (stB { M'.V with lines := upd M'.V.lines c.toNat (.slice a3 ((C c.toNat).drop (k + 1)).length k3) })) hB q1 (by rw [next_set]; exact q2) (hE3.wf.set hrl3 _) (by simp only [next_set, next_bump] at hn3 ⊢; omega) (get_set_eq hrb)
        (fun c' x hc h1 _ => by rw [get_set_ne h1]; exact hE3.of hX2.wf (hb15.of hX1.wf hc)) (q3.frame fun b x hb hg => ⟨hb, by rw [get_set_ne (by rw [hb]; omega)]; exact hg⟩)
    rcases hof with ⟨e1, e2, e3⟩ | ⟨b, o, pre, e1, e2, e3, e4, e5, e6⟩
    · obtain ⟨q1, q2⟩ := build _ (Nat.le_refl _) (by omega) (.inl ⟨e1, e2, e3⟩)
      exact ⟨_, q1, q2, rfl, rfl, rfl, rfl, rfl, rfl, rfl⟩
    · rw [hnx] at e3
      obtain ⟨q1, q2⟩ := build b (by omega) (hE3.wf.lt e4) (.inr ⟨b, o, pre, e1, e2, rfl, e4, e5, e6⟩)
      exact ⟨_, q1, q2, rfl, rfl, rfl, rfl, rfl, rfl, rfl⟩
  obtain ⟨M3, q1, q2, q3, q4, q5, q6, q7, q8, q9⟩ := key
  have eu : upd (upd C c.toNat ((C c.toNat).drop k)) c.toNat ((C c.toNat).drop (k + 1)) = upd C c.toNat ((C c.toNat).drop (k + 1)) := upd_twice
  rw [eu] at q1
  refine ⟨n - (k + 1), by omega, k + 1, M3, rfl, by omega, by omega, ?_, ?_, ?_, q1, (hF.trans hF1).trans q2, ?_, q4.trans eh, q5.trans er, q6.trans eo, q7.trans el, q8.trans eb, q9.trans ep⟩
  · simp only [Tr.get_put, Nat.reduceEqDiff, ↓reduceIte, f0]
  · simp only [Tr.get_put, Nat.reduceEqDiff, ↓reduceIte, f1]
  · simp only [Tr.get_put, Nat.reduceEqDiff, ↓reduceIte, nv]
  · rw [q3, List.take_succ_eq_append_getElem c2, wakeT_snoc, eT]
end Go.Am.T
