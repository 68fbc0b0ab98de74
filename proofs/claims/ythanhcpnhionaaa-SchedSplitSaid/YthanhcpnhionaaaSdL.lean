/- The walks of the scheduler's functions: right, May, asked. Conditions: those of each theorem. -/
import Derived.Test.YthanhcpnhionaaaSdK
set_option linter.all false
set_option linter.unusedSimpArgs false
set_option linter.unusedVariables false
namespace Go.Am.T
open Go Go.Am Go.Proofs.Ythanhcpnhionaaa Go.Proofs

def oddA (a : Act) : Bool := decide (a.k < 1) || decide (13 < a.k)

theorem right_o {H : Heap} (hw : WF H) {a : Act} {len : Nat} (hl : len ≤ 65536) (hk : a.k < 1 ∨ 13 < a.k) : CW Try.prog 20 #[.agg a.cells.toArray, nv len] H fun x H' => x = .ret (.bool (rightP a len)) ∧ Ext H H' := by
  refine CW_k (n := 98) if20 rfl ?_
  unfold C20
  have hnb := hw.1
  have k1 : ¬ a.k = 1 := by omega
  have k2 : ¬ a.k = 2 := by omega
  have k3 : ¬ a.k = 3 := by omega
  have k4 : ¬ a.k = 4 := by omega
  have k5 : ¬ a.k = 5 := by omega
  have k6 : ¬ a.k = 6 := by omega
  have k7 : ¬ a.k = 7 := by omega
  have k8 : ¬ a.k = 8 := by omega
  have k9 : ¬ a.k = 9 := by omega
  have k10 : ¬ a.k = 10 := by omega
  have k12 : ¬ a.k = 12 := by omega
  have k13 : ¬ a.k = 13 := by omega
  have hEG := (((((Ext.refl hw).alloc (⟨47, 0, false, [.int .i64 a.k, .int .i64 a.a, .int .i64 a.b, .int .i64 a.n]⟩ : Blk)).alloc (⟨47, 0, false, [.int .i64 0, .int .i64 0, .int .i64 0, .int .i64 0]⟩ : Blk)).set (b := H.next + 1) (by omega) (by simp only [next_alloc]; omega) (⟨47, 0, false, [.int .i64 0, .int .i64 a.a, .int .i64 a.b, .int .i64 a.n]⟩ : Blk)).alloc
    (⟨4, 0, false, [.bool false]⟩ : Blk)).set (b := H.next + 1 + 1) (by omega) (by simp only [next_alloc, next_set]; omega) (⟨4, 0, false, [.bool true]⟩ : Blk)
  simp (config := { implicitDefEqProofs := false, maxDischargeDepth := 6, maxSteps := 1000000 }) only [go_sem, ↓reduceIte, Nat.reduceLT, Nat.reduceLeDiff, Nat.reduceEqDiff, Nat.reduceAdd, Nat.reduceMul, Nat.reduceSub, Nat.reduceBEq, reduceCtorEq, Int.reduceEq, Int.reduceLT, Int.reduceLE, Int.reduceNeg, Int.reduceToNat, hnb, loads_eq, Act.cells, k1, k2, k3, k4, k5, k6, k7, k8, k9, k10, k12, k13]
  exact ⟨by simp [rightP, okP, restP, k1, k2, k3, k4, k5, k6, k7, k8, k9, k10, k12, k13], hEG⟩

theorem right_W {H : Heap} (hw : WF H) {a : Act} {len : Nat} (hl : len ≤ 65536) : CW Try.prog 20 #[.agg a.cells.toArray, nv len] H fun x H' => x = .ret (.bool (rightP a len)) ∧ Ext H H' := by
  by_cases h : a.k < 1 ∨ 13 < a.k
  · exact right_o hw hl h
  by_cases k1 : a.k = 1
  · exact right_1 hw hl k1
  by_cases k2 : a.k = 2
  · exact right_2 hw hl k2
  by_cases k3 : a.k = 3
  · exact right_3 hw hl k3
  by_cases k4 : a.k = 4
  · exact right_4 hw hl k4
  by_cases k5 : a.k = 5
  · exact right_5 hw hl k5
  by_cases k6 : a.k = 6
  · exact right_6 hw hl k6
  by_cases k7 : a.k = 7
  · exact right_7 hw hl k7
  by_cases k8 : a.k = 8
  · exact right_8 hw hl k8
  by_cases k9 : a.k = 9
  · exact right_9 hw hl k9
  by_cases k10 : a.k = 10
  · exact right_10 hw hl k10
  by_cases k11 : a.k = 11
  · exact right_11 hw hl k11
  by_cases k12 : a.k = 12
  · exact right_12 hw hl k12
  · exact right_13 hw hl (by omega)

def wrA (n : Nat) (a : Act) : Bool := !rightP a n
def oddL (l : List Act) : Bool := l.any oddA
def wrL (l : List Act) : Bool := l.any (wrA l.length)
def mayP (ts : List (List Act)) : Int :=
  if 16 < ts.length then 9 else if ts.any (fun l => decide (256 < l.length)) then 9 else if ts.any oddL then 62 else if ts.any wrL then 1 else 0

theorem any_take_succ {α : Type} (p : α → Bool) (l : List α) {k : Nat} (h : k < l.length) : (l.take (k + 1)).any p = ((l.take k).any p || p l[k]) := by
  rw [List.take_succ_eq_append_getElem h, List.any_append]; simp

theorem may_W {H : Heap} (hw : WF H) {tv : Value} {ts : List (List Act)} {av : Nat → Value} (ht : TasksAt H tv ts av) (hN : ts.length ≤ 70368744177664) :
    CW Try.prog 11 #[tv] H fun x H' => x = .ret (.int .i64 (mayP ts)) ∧ Ext H H' := by
  refine CW_k (n := 52) if11 rfl ?_
  unfold C11
  obtain ⟨ta, tc, htv, _⟩ := id ht.rd
  simp only [List.length_map, List.length_range] at htv
  by_cases h16 : 16 < ts.length
  · have hZ : (16 : Int) < (ts.length : Int) := by omega
    simp (config := { implicitDefEqProofs := false, maxDischargeDepth := 6, maxSteps := 1000000 }) only [go_sem, ↓reduceIte, Nat.reduceLT, Nat.reduceLeDiff, Nat.reduceEqDiff, Nat.reduceAdd, Nat.reduceMul, Nat.reduceSub, Nat.reduceBEq, reduceCtorEq, Int.reduceEq, Int.reduceLT, Int.reduceLE, Int.reduceNeg, Int.reduceToNat, htv, goInt, hZ, mayP, h16]
    exact Ext.refl hw
  have hZ : ¬ (16 : Int) < (ts.length : Int) := by omega
  simp (config := { implicitDefEqProofs := false, maxDischargeDepth := 6, maxSteps := 1000000 }) only [go_sem, ↓reduceIte, Nat.reduceLT, Nat.reduceLeDiff, Nat.reduceEqDiff, Nat.reduceAdd, Nat.reduceMul, Nat.reduceSub, Nat.reduceBEq, reduceCtorEq, Int.reduceEq, Int.reduceLT, Int.reduceLE, Int.reduceNeg, Int.reduceToNat, htv, goInt, hZ]
  refine Wk_loopF (fun m f H1 => ∃ k, m = ts.length - k ∧ k ≤ ts.length ∧ f.get 3 = some (.bool ((ts.take k).any oddL)) ∧ f.get 4 = some (.bool ((ts.take k).any wrL)) ∧ f.get 12 = some (.slice ta ts.length tc) ∧ f.get 13 = some (nv ts.length) ∧ f.get 14 = some (nv k) ∧
    Ext H H1 ∧ (ts.take k).any (fun l => decide (256 < l.length)) = false) ts.length ?_ ?_
  · refine ⟨0, by omega, by omega, ?_, ?_, ?_, ?_, ?_, Ext.refl hw, rfl⟩
    all_goals simp (config := { implicitDefEqProofs := false, maxDischargeDepth := 6, maxSteps := 1000000 }) only [go_sem, ↓reduceIte, Nat.reduceLT, Nat.reduceLeDiff, Nat.reduceEqDiff, Nat.reduceAdd, Nat.reduceMul, Nat.reduceSub, Nat.reduceBEq, reduceCtorEq, Int.reduceEq, Int.reduceLT, Int.reduceLE, Int.reduceNeg, Int.reduceToNat, nv, List.any_nil]
    rfl
  rintro m f H1 ⟨k, rfl, hk, f3, f4, f12, f13, f14, hE1, hsm⟩
  unfold L11_2
  by_cases hlt : k < ts.length
  · have hltZ : (k : Int) < (ts.length : Int) := by omega
    have hk0 : (0 : Int) ≤ (k : Int) := by omega
    have hw1 : IntKind.i64.wrap ((k : Int) + 1) = ((k + 1 : Nat) : Int) := IntWalk.i64_in _ (by omega)
    obtain ⟨b, o, c, x, hv, hc, hx, hxk⟩ := ht.rd.at_ (i := k) (by simpa using hlt)
    rw [htv] at hv
    simp only [Value.slice.injEq, List.length_map, List.length_range, true_and] at hv
    obtain ⟨rfl, rfl⟩ := hv
    simp only [List.getElem_map, List.getElem_range] at hxk
    obtain ⟨aa, ac, hav⟩ := (ht.acts k hlt).len
    have hx1 := hE1.of hw hx
    by_cases h256 : 256 < ts[k].length
    · have h2Z : (256 : Int) < (ts[k].length : Int) := by omega
      have hm : mayP ts = 9 := by
        unfold mayP
        rw [if_neg h16, if_pos]
        rw [List.any_eq_true]
        exact ⟨ts[k], List.getElem_mem hlt, by simpa using h256⟩
      simp (config := { implicitDefEqProofs := false, maxDischargeDepth := 6, maxSteps := 1000000 }) only [go_sem, ↓reduceIte, Nat.reduceLT, Nat.reduceLeDiff, Nat.reduceEqDiff, Nat.reduceAdd, Nat.reduceMul, Nat.reduceSub, Nat.reduceBEq, reduceCtorEq, Int.reduceEq, Int.reduceLT, Int.reduceLE, Int.reduceNeg, Int.reduceToNat, f3, f4, f12, f13, f14, nv, hltZ, hk0, hc, hx1, hxk, hav, goInt, h2Z, hm]
      exact hE1
    · have h2Z : ¬ (256 : Int) < (ts[k].length : Int) := by omega
      have hwl : (ts.take (k + 1)).any (fun l => decide (256 < l.length)) = false := by
        rw [any_take_succ _ _ hlt, hsm]; simpa using h256
      simp (config := { implicitDefEqProofs := false, maxDischargeDepth := 6, maxSteps := 1000000 }) only [go_sem, ↓reduceIte, Nat.reduceLT, Nat.reduceLeDiff, Nat.reduceEqDiff, Nat.reduceAdd, Nat.reduceMul, Nat.reduceSub, Nat.reduceBEq, reduceCtorEq, Int.reduceEq, Int.reduceLT, Int.reduceLE, Int.reduceNeg, Int.reduceToNat, f3, f4, f12, f13, f14, nv, hltZ, hk0, hc, hx1, hxk, hav, goInt, h2Z]
      generalize ho0 : (ts.take k).any oddL = o0 at *
      generalize hw0 : (ts.take k).any wrL = w0 at *
      generalize hl : ts[k] = l at *
      have hA : ActsAt H (av k) l := by rw [← hl]; exact ht.acts k hlt
      refine Wk_loopF (fun m f H2 => ∃ j, m = l.length - j ∧ j ≤ l.length ∧ f.get 3 = some (.bool (o0 || (l.take j).any oddA)) ∧ f.get 4 = some (.bool (w0 || (l.take j).any (wrA l.length))) ∧ f.get 6 = some (.slice aa l.length ac) ∧ f.get 21 = some (.slice aa l.length ac) ∧ f.get 22 = some (nv l.length) ∧ f.get 23 = some (nv j) ∧
        f.get 12 = some (.slice (some ⟨b, o, none⟩) ts.length tc) ∧ f.get 13 = some (nv ts.length) ∧ f.get 14 = some (nv k) ∧ Ext H H2) l.length ?_ ?_
      · refine ⟨0, by omega, by omega, ?_, ?_, ?_, ?_, ?_, ?_, ?_, ?_, ?_, hE1⟩
        all_goals simp (config := { implicitDefEqProofs := false, maxDischargeDepth := 6, maxSteps := 1000000 }) only [go_sem, ↓reduceIte, Nat.reduceLT, Nat.reduceLeDiff, Nat.reduceEqDiff, Nat.reduceAdd, Nat.reduceMul, Nat.reduceSub, Nat.reduceBEq, reduceCtorEq, Int.reduceEq, Int.reduceLT, Int.reduceLE, Int.reduceNeg, Int.reduceToNat, nv, List.any_nil, f3, f4, f12, f13, f14]
        rfl
      rintro m f H2 ⟨j, rfl, hj, g3, g4, g6, g21, g22, g23, g12, g13, g14, hE2⟩
      unfold L11_1
      by_cases hjl : j < l.length
      · have hjZ : (j : Int) < (l.length : Int) := by omega
        have hj0 : (0 : Int) ≤ (j : Int) := by omega
        have hw2 : IntKind.i64.wrap ((j : Int) + 1) = ((j + 1 : Nat) : Int) := IntWalk.i64_in _ (by omega)
        obtain ⟨b2, o2, c2, x2, hv2, hc2, hx2, hle2, hcs2⟩ := hA.at_ hjl
        rw [hav] at hv2
        simp only [Value.slice.injEq, true_and] at hv2
        obtain ⟨rfl, rfl⟩ := hv2
        have hx22 := hE2.of hw hx2
        have hxl := hE2.wf.lt hx22
        have hnb2 := hE2.wf.1
        have ho1 : (o0 || (l.take (j + 1)).any oddA) = ((o0 || (l.take j).any oddA) || oddA l[j]) := by rw [any_take_succ _ _ hjl, Bool.or_assoc]
        have hw1' : (w0 || (l.take (j + 1)).any (wrA l.length)) = ((w0 || (l.take j).any (wrA l.length)) || wrA l.length l[j]) := by rw [any_take_succ _ _ hjl, Bool.or_assoc]
        generalize (o0 || (l.take j).any oddA) = od at *
        generalize (w0 || (l.take j).any (wrA l.length)) = wr at *
        generalize l[j] = a at *
        have hE3 : Ext H ((H2.alloc (⟨47, 0, false, [.int .i64 0, .int .i64 0, .int .i64 0, .int .i64 0]⟩ : Blk)).set H2.next ⟨47, 0, false, a.cells⟩) := (hE2.alloc _).set hE2.le (by simp only [next_alloc]; omega) _
        cases wr with
        | true =>
          cases od <;> by_cases h1 : a.k < 1 <;> by_cases h13 : 13 < a.k
          all_goals
            simp (config := { implicitDefEqProofs := false, maxDischargeDepth := 6, maxSteps := 1000000 }) only [go_sem, ↓reduceIte, Nat.reduceLT, Nat.reduceLeDiff, Nat.reduceEqDiff, Nat.reduceAdd, Nat.reduceMul, Nat.reduceSub, Nat.reduceBEq, reduceCtorEq, Int.reduceEq, Int.reduceLT, Int.reduceLE, Int.reduceNeg, Int.reduceToNat, g3, g4, g6, g21, g22, g23, g12, g13, g14, nv, hjZ, hj0, hc2, hx22, hle2, hcs2, hxl, hnb2, hw2, loads_eq, goInt, h1, h13]
            refine ⟨l.length - (j + 1), by omega, j + 1, rfl, by omega, ?_, ?_, ?_, ?_, ?_, ?_, ?_, ?_, ?_, hE3⟩
            · rw [ho1]; simp (config := { implicitDefEqProofs := false, maxDischargeDepth := 6, maxSteps := 1000000 }) only [go_sem, ↓reduceIte, Nat.reduceLT, Nat.reduceLeDiff, Nat.reduceEqDiff, Nat.reduceAdd, Nat.reduceMul, Nat.reduceSub, Nat.reduceBEq, reduceCtorEq, Int.reduceEq, Int.reduceLT, Int.reduceLE, Int.reduceNeg, Int.reduceToNat, oddA, h1, h13]
            · rw [hw1']; simp (config := { implicitDefEqProofs := false, maxDischargeDepth := 6, maxSteps := 1000000 }) only [go_sem, ↓reduceIte, Nat.reduceLT, Nat.reduceLeDiff, Nat.reduceEqDiff, Nat.reduceAdd, Nat.reduceMul, Nat.reduceSub, Nat.reduceBEq, reduceCtorEq, Int.reduceEq, Int.reduceLT, Int.reduceLE, Int.reduceNeg, Int.reduceToNat, g4]
            · simp (config := { implicitDefEqProofs := false, maxDischargeDepth := 6, maxSteps := 1000000 }) only [go_sem, ↓reduceIte, Nat.reduceLT, Nat.reduceLeDiff, Nat.reduceEqDiff, Nat.reduceAdd, Nat.reduceMul, Nat.reduceSub, Nat.reduceBEq, reduceCtorEq, Int.reduceEq, Int.reduceLT, Int.reduceLE, Int.reduceNeg, Int.reduceToNat, g6]
            · simp (config := { implicitDefEqProofs := false, maxDischargeDepth := 6, maxSteps := 1000000 }) only [go_sem, ↓reduceIte, Nat.reduceLT, Nat.reduceLeDiff, Nat.reduceEqDiff, Nat.reduceAdd, Nat.reduceMul, Nat.reduceSub, Nat.reduceBEq, reduceCtorEq, Int.reduceEq, Int.reduceLT, Int.reduceLE, Int.reduceNeg, Int.reduceToNat, g21]
            · simp (config := { implicitDefEqProofs := false, maxDischargeDepth := 6, maxSteps := 1000000 }) only [go_sem, ↓reduceIte, Nat.reduceLT, Nat.reduceLeDiff, Nat.reduceEqDiff, Nat.reduceAdd, Nat.reduceMul, Nat.reduceSub, Nat.reduceBEq, reduceCtorEq, Int.reduceEq, Int.reduceLT, Int.reduceLE, Int.reduceNeg, Int.reduceToNat, g22, nv]
            · simp (config := { implicitDefEqProofs := false, maxDischargeDepth := 6, maxSteps := 1000000 }) only [go_sem, ↓reduceIte, Nat.reduceLT, Nat.reduceLeDiff, Nat.reduceEqDiff, Nat.reduceAdd, Nat.reduceMul, Nat.reduceSub, Nat.reduceBEq, reduceCtorEq, Int.reduceEq, Int.reduceLT, Int.reduceLE, Int.reduceNeg, Int.reduceToNat, nv]
            · simp (config := { implicitDefEqProofs := false, maxDischargeDepth := 6, maxSteps := 1000000 }) only [go_sem, ↓reduceIte, Nat.reduceLT, Nat.reduceLeDiff, Nat.reduceEqDiff, Nat.reduceAdd, Nat.reduceMul, Nat.reduceSub, Nat.reduceBEq, reduceCtorEq, Int.reduceEq, Int.reduceLT, Int.reduceLE, Int.reduceNeg, Int.reduceToNat, g12]
            · simp (config := { implicitDefEqProofs := false, maxDischargeDepth := 6, maxSteps := 1000000 }) only [go_sem, ↓reduceIte, Nat.reduceLT, Nat.reduceLeDiff, Nat.reduceEqDiff, Nat.reduceAdd, Nat.reduceMul, Nat.reduceSub, Nat.reduceBEq, reduceCtorEq, Int.reduceEq, Int.reduceLT, Int.reduceLE, Int.reduceNeg, Int.reduceToNat, g13, nv]
            · simp (config := { implicitDefEqProofs := false, maxDischargeDepth := 6, maxSteps := 1000000 }) only [go_sem, ↓reduceIte, Nat.reduceLT, Nat.reduceLeDiff, Nat.reduceEqDiff, Nat.reduceAdd, Nat.reduceMul, Nat.reduceSub, Nat.reduceBEq, reduceCtorEq, Int.reduceEq, Int.reduceLT, Int.reduceLE, Int.reduceNeg, Int.reduceToNat, g14, nv]
        | false =>
          cases od <;> by_cases h1 : a.k < 1 <;> by_cases h13 : 13 < a.k
          all_goals
            simp (config := { implicitDefEqProofs := false, maxDischargeDepth := 6, maxSteps := 1000000 }) only [go_sem, ↓reduceIte, Nat.reduceLT, Nat.reduceLeDiff, Nat.reduceEqDiff, Nat.reduceAdd, Nat.reduceMul, Nat.reduceSub, Nat.reduceBEq, reduceCtorEq, Int.reduceEq, Int.reduceLT, Int.reduceLE, Int.reduceNeg, Int.reduceToNat, g3, g4, g6, g21, g22, g23, g12, g13, g14, nv, hjZ, hj0, hc2, hx22, hle2, hcs2, hxl, hnb2, hw2, loads_eq, goInt, h1, h13]
            refine CW_mono _ (right_W hE3.wf (len := l.length) (by omega)) ?_
            rintro _ H4 ⟨rfl, hE4⟩
            simp (config := { implicitDefEqProofs := false, maxDischargeDepth := 6, maxSteps := 1000000 }) only [go_sem, ↓reduceIte, Nat.reduceLT, Nat.reduceLeDiff, Nat.reduceEqDiff, Nat.reduceAdd, Nat.reduceMul, Nat.reduceSub, Nat.reduceBEq, reduceCtorEq, Int.reduceEq, Int.reduceLT, Int.reduceLE, Int.reduceNeg, Int.reduceToNat, g3, g4, g6, g21, g22, g23, g12, g13, g14, nv, hjZ, hj0, hc2, hx22, hle2, hcs2, hxl, hnb2, hw2, loads_eq, goInt, h1, h13]
            refine ⟨l.length - (j + 1), by omega, j + 1, rfl, by omega, ?_, ?_, ?_, ?_, ?_, ?_, ?_, ?_, ?_, hE3.trans hE4⟩
            · rw [ho1]; simp (config := { implicitDefEqProofs := false, maxDischargeDepth := 6, maxSteps := 1000000 }) only [go_sem, ↓reduceIte, Nat.reduceLT, Nat.reduceLeDiff, Nat.reduceEqDiff, Nat.reduceAdd, Nat.reduceMul, Nat.reduceSub, Nat.reduceBEq, reduceCtorEq, Int.reduceEq, Int.reduceLT, Int.reduceLE, Int.reduceNeg, Int.reduceToNat, oddA, h1, h13]
            · rw [hw1']; simp (config := { implicitDefEqProofs := false, maxDischargeDepth := 6, maxSteps := 1000000 }) only [go_sem, ↓reduceIte, Nat.reduceLT, Nat.reduceLeDiff, Nat.reduceEqDiff, Nat.reduceAdd, Nat.reduceMul, Nat.reduceSub, Nat.reduceBEq, reduceCtorEq, Int.reduceEq, Int.reduceLT, Int.reduceLE, Int.reduceNeg, Int.reduceToNat, wrA]
            · simp (config := { implicitDefEqProofs := false, maxDischargeDepth := 6, maxSteps := 1000000 }) only [go_sem, ↓reduceIte, Nat.reduceLT, Nat.reduceLeDiff, Nat.reduceEqDiff, Nat.reduceAdd, Nat.reduceMul, Nat.reduceSub, Nat.reduceBEq, reduceCtorEq, Int.reduceEq, Int.reduceLT, Int.reduceLE, Int.reduceNeg, Int.reduceToNat, g6]
            · simp (config := { implicitDefEqProofs := false, maxDischargeDepth := 6, maxSteps := 1000000 }) only [go_sem, ↓reduceIte, Nat.reduceLT, Nat.reduceLeDiff, Nat.reduceEqDiff, Nat.reduceAdd, Nat.reduceMul, Nat.reduceSub, Nat.reduceBEq, reduceCtorEq, Int.reduceEq, Int.reduceLT, Int.reduceLE, Int.reduceNeg, Int.reduceToNat, g21]
            · simp (config := { implicitDefEqProofs := false, maxDischargeDepth := 6, maxSteps := 1000000 }) only [go_sem, ↓reduceIte, Nat.reduceLT, Nat.reduceLeDiff, Nat.reduceEqDiff, Nat.reduceAdd, Nat.reduceMul, Nat.reduceSub, Nat.reduceBEq, reduceCtorEq, Int.reduceEq, Int.reduceLT, Int.reduceLE, Int.reduceNeg, Int.reduceToNat, g22, nv]
            · simp (config := { implicitDefEqProofs := false, maxDischargeDepth := 6, maxSteps := 1000000 }) only [go_sem, ↓reduceIte, Nat.reduceLT, Nat.reduceLeDiff, Nat.reduceEqDiff, Nat.reduceAdd, Nat.reduceMul, Nat.reduceSub, Nat.reduceBEq, reduceCtorEq, Int.reduceEq, Int.reduceLT, Int.reduceLE, Int.reduceNeg, Int.reduceToNat, nv]
            · simp (config := { implicitDefEqProofs := false, maxDischargeDepth := 6, maxSteps := 1000000 }) only [go_sem, ↓reduceIte, Nat.reduceLT, Nat.reduceLeDiff, Nat.reduceEqDiff, Nat.reduceAdd, Nat.reduceMul, Nat.reduceSub, Nat.reduceBEq, reduceCtorEq, Int.reduceEq, Int.reduceLT, Int.reduceLE, Int.reduceNeg, Int.reduceToNat, g12]
            · simp (config := { implicitDefEqProofs := false, maxDischargeDepth := 6, maxSteps := 1000000 }) only [go_sem, ↓reduceIte, Nat.reduceLT, Nat.reduceLeDiff, Nat.reduceEqDiff, Nat.reduceAdd, Nat.reduceMul, Nat.reduceSub, Nat.reduceBEq, reduceCtorEq, Int.reduceEq, Int.reduceLT, Int.reduceLE, Int.reduceNeg, Int.reduceToNat, g13, nv]
            · simp (config := { implicitDefEqProofs := false, maxDischargeDepth := 6, maxSteps := 1000000 }) only [go_sem, ↓reduceIte, Nat.reduceLT, Nat.reduceLeDiff, Nat.reduceEqDiff, Nat.reduceAdd, Nat.reduceMul, Nat.reduceSub, Nat.reduceBEq, reduceCtorEq, Int.reduceEq, Int.reduceLT, Int.reduceLE, Int.reduceNeg, Int.reduceToNat, g14, nv]
      · have hjZ : ¬ (j : Int) < (l.length : Int) := by omega
        obtain rfl : j = l.length := by omega
        simp (config := { implicitDefEqProofs := false, maxDischargeDepth := 6, maxSteps := 1000000 }) only [go_sem, ↓reduceIte, Nat.reduceLT, Nat.reduceLeDiff, Nat.reduceEqDiff, Nat.reduceAdd, Nat.reduceMul, Nat.reduceSub, Nat.reduceBEq, reduceCtorEq, Int.reduceEq, Int.reduceLT, Int.reduceLE, Int.reduceNeg, Int.reduceToNat, g3, g4, g6, g21, g22, g23, g12, g13, g14, nv, hjZ, hw1]
        refine ⟨ts.length - (k + 1), by omega, k + 1, rfl, by omega, ?_, ?_, ?_, ?_, ?_, hE2, hwl⟩
        · rw [any_take_succ _ _ hlt, ho0, hl]; simp (config := { implicitDefEqProofs := false, maxDischargeDepth := 6, maxSteps := 1000000 }) only [go_sem, ↓reduceIte, Nat.reduceLT, Nat.reduceLeDiff, Nat.reduceEqDiff, Nat.reduceAdd, Nat.reduceMul, Nat.reduceSub, Nat.reduceBEq, reduceCtorEq, Int.reduceEq, Int.reduceLT, Int.reduceLE, Int.reduceNeg, Int.reduceToNat, g3, List.take_length, oddL]
        · rw [any_take_succ _ _ hlt, hw0, hl]; simp (config := { implicitDefEqProofs := false, maxDischargeDepth := 6, maxSteps := 1000000 }) only [go_sem, ↓reduceIte, Nat.reduceLT, Nat.reduceLeDiff, Nat.reduceEqDiff, Nat.reduceAdd, Nat.reduceMul, Nat.reduceSub, Nat.reduceBEq, reduceCtorEq, Int.reduceEq, Int.reduceLT, Int.reduceLE, Int.reduceNeg, Int.reduceToNat, g4, List.take_length, wrL]
        · simp (config := { implicitDefEqProofs := false, maxDischargeDepth := 6, maxSteps := 1000000 }) only [go_sem, ↓reduceIte, Nat.reduceLT, Nat.reduceLeDiff, Nat.reduceEqDiff, Nat.reduceAdd, Nat.reduceMul, Nat.reduceSub, Nat.reduceBEq, reduceCtorEq, Int.reduceEq, Int.reduceLT, Int.reduceLE, Int.reduceNeg, Int.reduceToNat, g12]
        · simp (config := { implicitDefEqProofs := false, maxDischargeDepth := 6, maxSteps := 1000000 }) only [go_sem, ↓reduceIte, Nat.reduceLT, Nat.reduceLeDiff, Nat.reduceEqDiff, Nat.reduceAdd, Nat.reduceMul, Nat.reduceSub, Nat.reduceBEq, reduceCtorEq, Int.reduceEq, Int.reduceLT, Int.reduceLE, Int.reduceNeg, Int.reduceToNat, g13, nv]
        · simp (config := { implicitDefEqProofs := false, maxDischargeDepth := 6, maxSteps := 1000000 }) only [go_sem, ↓reduceIte, Nat.reduceLT, Nat.reduceLeDiff, Nat.reduceEqDiff, Nat.reduceAdd, Nat.reduceMul, Nat.reduceSub, Nat.reduceBEq, reduceCtorEq, Int.reduceEq, Int.reduceLT, Int.reduceLE, Int.reduceNeg, Int.reduceToNat, nv]
  · have hltZ : ¬ (k : Int) < (ts.length : Int) := by omega
    obtain rfl : k = ts.length := by omega
    rw [List.take_length] at f3 f4 hsm
    cases ho : ts.any oddL with
    | true =>
      have hm : mayP ts = 62 := by
        unfold mayP
        rw [if_neg h16, if_neg (by rw [hsm]; simp), if_pos ho]
      simp (config := { implicitDefEqProofs := false, maxDischargeDepth := 6, maxSteps := 1000000 }) only [go_sem, ↓reduceIte, Nat.reduceLT, Nat.reduceLeDiff, Nat.reduceEqDiff, Nat.reduceAdd, Nat.reduceMul, Nat.reduceSub, Nat.reduceBEq, reduceCtorEq, Int.reduceEq, Int.reduceLT, Int.reduceLE, Int.reduceNeg, Int.reduceToNat, f3, f4, f12, f13, f14, nv, hltZ, ho, hm]
      exact hE1
    | false =>
      cases hwr : ts.any wrL with
      | true =>
        have hm : mayP ts = 1 := by
          unfold mayP
          rw [if_neg h16, if_neg (by rw [hsm]; simp), if_neg (by rw [ho]; simp), if_pos hwr]
        simp (config := { implicitDefEqProofs := false, maxDischargeDepth := 6, maxSteps := 1000000 }) only [go_sem, ↓reduceIte, Nat.reduceLT, Nat.reduceLeDiff, Nat.reduceEqDiff, Nat.reduceAdd, Nat.reduceMul, Nat.reduceSub, Nat.reduceBEq, reduceCtorEq, Int.reduceEq, Int.reduceLT, Int.reduceLE, Int.reduceNeg, Int.reduceToNat, f3, f4, f12, f13, f14, nv, hltZ, ho, hwr, hm]
        exact hE1
      | false =>
        have hm : mayP ts = 0 := by
          unfold mayP
          rw [if_neg h16, if_neg (by rw [hsm]; simp), if_neg (by rw [ho]; simp), if_neg (by rw [hwr]; simp)]
        simp (config := { implicitDefEqProofs := false, maxDischargeDepth := 6, maxSteps := 1000000 }) only [go_sem, ↓reduceIte, Nat.reduceLT, Nat.reduceLeDiff, Nat.reduceEqDiff, Nat.reduceAdd, Nat.reduceMul, Nat.reduceSub, Nat.reduceBEq, reduceCtorEq, Int.reduceEq, Int.reduceLT, Int.reduceLE, Int.reduceNeg, Int.reduceToNat, f3, f4, f12, f13, f14, nv, hltZ, ho, hwr, hm]
        exact hE1
end Go.Am.T
