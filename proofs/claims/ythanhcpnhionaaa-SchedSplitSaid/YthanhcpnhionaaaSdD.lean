/- The walks of the scheduler's functions: next, free, caught. Conditions: those of each theorem. -/
import Derived.Test.YthanhcpnhionaaaSdC
set_option linter.all false
set_option linter.unusedSimpArgs false
set_option linter.unusedVariables false
namespace Go.Am.T
open Go Go.Am Go.Proofs.Ythanhcpnhionaaa Go.Proofs

def nextP (last : Int) (k : Nat) (l : List Nat) (picks : List Int) : Nat :=
  match picks[k]? with
  | some p => l.getD (p.toNat % l.length) 0
  | none => (l.find? fun (i : Nat) => decide (last < (i : Int))).getD (l.getD 0 0)

theorem tmod_nat {p : Int} (h : 0 ≤ p) (n : Nat) : p.tmod (n : Int) = ((p.toNat % n : Nat) : Int) := by
  obtain ⟨k, rfl⟩ := Int.eq_ofNat_of_zero_le h
  rw [Int.toNat_natCast]; rfl

theorem next_W {H : Heap} {r : Nat} {M : Mem} {S : Sx} (h : Rep H r M S) {rv pv : Value} {l : List Nat} {picks : List Int} (hr : RdI H rv (l.map nv)) (hp : RdI H pv (picks.map iv)) (hl : l ≠ [])
   (hpos : ∀ p ∈ picks, 0 ≤ p) (hb : l.length ≤ 65536) (ht : S.trace.length ≤ 1000000) :
   CW Try.prog 41 #[.pointer (some ⟨r, 0, none⟩), rv, pv] H fun x H' => x = .ret (nv (nextP S.last S.trace.length l picks)) ∧ H = H' := by
  refine CW_k (n := 46) if41 rfl ?_
  unfold C41
  have hlen : 0 < l.length := by cases l with | nil => exact absurd rfl hl | cons a b => simp
  have hl0 : 0 < (l.map nv).length := by simpa using hlen
  obtain ⟨tb, tc, htr⟩ := (h.trace (by simp)).sl
  obtain ⟨pa, pc, hpv, _⟩ := id hp
  obtain ⟨rb, ro, rc, rx, hrv, hrc, hrx, hr0⟩ := hr.at_ hl0
  rw [List.length_map] at hpv hrv
  by_cases hk : S.trace.length < picks.length
  · have hkZ : (S.trace.length : Int) < (picks.length : Int) := by omega
    obtain ⟨pb, po, pc', px, hpv', hpc, hpx, hpk⟩ := hp.at_ (i := S.trace.length) (by simpa using hk)
    rw [List.length_map] at hpv'
    simp only [List.getElem_map, iv] at hpk
    have hge : 0 ≤ picks[S.trace.length] := hpos _ (List.getElem_mem hk)
    have htm := tmod_nat hge l.length
    have hml : picks[S.trace.length].toNat % l.length < l.length := Nat.mod_lt _ hlen
    obtain ⟨rb', ro', rc', rx', hrv', _, hrx', hri⟩ := hr.at_ (i := picks[S.trace.length].toNat % l.length) (by simpa using hml)
    rw [List.length_map] at hrv'
    rw [hrv] at hrv'
    simp only [Value.slice.injEq, Option.some.injEq, Addr.mk.injEq, and_true] at hrv'
    obtain ⟨⟨rfl, rfl⟩, _, rfl⟩ := hrv'
    rw [hrx] at hrx'; cases hrx'
    simp only [List.getElem_map, nv] at hri
    have hn : nextP S.last S.trace.length l picks = l[picks[S.trace.length].toNat % l.length] := by
      unfold nextP
      rw [List.getElem?_eq_getElem hk]
      simp [hml]
    have hz0 : (0 : Int) ≤ (S.trace.length : Int) := by omega
    have hl00 : ¬ (l.length : Int) = 0 := by omega
    have hm0 : (0 : Int) ≤ ((picks[S.trace.length].toNat % l.length : Nat) : Int) := by omega
    have hm1 : ((picks[S.trace.length].toNat % l.length : Nat) : Int) < (l.length : Int) := by omega
    simp (config := { implicitDefEqProofs := false, maxDischargeDepth := 6, maxSteps := 1000000 }) only [go_sem, ↓reduceIte, Nat.reduceLT, Nat.reduceLeDiff, Nat.reduceEqDiff, Nat.reduceAdd, Nat.reduceMul, Nat.reduceSub, Nat.reduceBEq, reduceCtorEq, Int.reduceEq, Int.reduceLT, Int.reduceLE, Int.reduceNeg, Int.reduceToNat, h.run, htr, goInt, hpv', hrv, hkZ, hz0, hpc, hpx, hpk, htm, hl00, hm0, hm1, hrc, hrx, hri, hn, nv]
  · have hkZ : ¬ (S.trace.length : Int) < (picks.length : Int) := by omega
    have hn : nextP S.last S.trace.length l picks = (l.find? fun (i : Nat) => decide (S.last < (i : Int))).getD (l.getD 0 0) := by
      unfold nextP
      rw [List.getElem?_eq_none (by omega)]
    simp (config := { implicitDefEqProofs := false, maxDischargeDepth := 6, maxSteps := 1000000 }) only [go_sem, ↓reduceIte, Nat.reduceLT, Nat.reduceLeDiff, Nat.reduceEqDiff, Nat.reduceAdd, Nat.reduceMul, Nat.reduceSub, Nat.reduceBEq, reduceCtorEq, Int.reduceEq, Int.reduceLT, Int.reduceLE, Int.reduceNeg, Int.reduceToNat, h.run, htr, goInt, hpv, hrv, hkZ]
    refine Wk_loopF (fun m f H1 => ∃ k, m = l.length - k ∧ k ≤ l.length ∧ f.get 0 = some (.pointer (some ⟨r, 0, none⟩)) ∧ f.get 1 = some (.slice (some ⟨rb, ro, none⟩) l.length rc) ∧ f.get 29 = some (.slice (some ⟨rb, ro, none⟩) l.length rc) ∧ f.get 30 = some (nv l.length) ∧ f.get 31 = some (nv k) ∧
      H1 = H ∧ ∀ i (hi : i < l.length), i < k → ¬ S.last < (l[i] : Int)) l.length ?_ ?_
    · refine ⟨0, by omega, by omega, ?_, ?_, ?_, ?_, ?_, rfl, by omega⟩
      all_goals simp (config := { implicitDefEqProofs := false, maxDischargeDepth := 6, maxSteps := 1000000 }) only [go_sem, ↓reduceIte, Nat.reduceLT, Nat.reduceLeDiff, Nat.reduceEqDiff, Nat.reduceAdd, Nat.reduceMul, Nat.reduceSub, Nat.reduceBEq, reduceCtorEq, Int.reduceEq, Int.reduceLT, Int.reduceLE, Int.reduceNeg, Int.reduceToNat, goInt, nv]
      rfl
    · rintro m f H1 ⟨k, rfl, hk', h0, h1, h29, h30, h31, rfl, hall⟩
      unfold L41_1
      by_cases hlt : k < l.length
      · have hltZ : (k : Int) < (l.length : Int) := by omega
        have hz : (0 : Int) ≤ (k : Int) := by omega
        obtain ⟨rb', ro', rc', rx', hrv', _, hrx', hri⟩ := hr.at_ (i := k) (by simpa using hlt)
        rw [List.length_map] at hrv'
        rw [hrv] at hrv'
        simp only [Value.slice.injEq, Option.some.injEq, Addr.mk.injEq, and_true] at hrv'
        obtain ⟨⟨rfl, rfl⟩, _, rfl⟩ := hrv'
        rw [hrx] at hrx'; cases hrx'
        simp only [List.getElem_map, nv] at hri
        have hw : IntKind.i64.wrap ((k : Int) + 1) = ((k + 1 : Nat) : Int) := IntWalk.i64_in _ (by omega)
        by_cases hg : S.last < (l[k] : Int)
        · simp (config := { implicitDefEqProofs := false, maxDischargeDepth := 6, maxSteps := 1000000 }) only [go_sem, ↓reduceIte, Nat.reduceLT, Nat.reduceLeDiff, Nat.reduceEqDiff, Nat.reduceAdd, Nat.reduceMul, Nat.reduceSub, Nat.reduceBEq, reduceCtorEq, Int.reduceEq, Int.reduceLT, Int.reduceLE, Int.reduceNeg, Int.reduceToNat, h0, h1, h29, h30, h31, nv, hltZ, hz, hrc, hrx, hri, h.run, hg]
          rw [hn]
          have : l.find? (fun (i : Nat) => decide (S.last < (i : Int))) = some l[k] := by
            rw [List.find?_eq_some_iff_getElem]
            refine ⟨by simpa using hg, k, hlt, rfl, ?_⟩
            intro j hj
            simpa using hall j (by omega) hj
          rw [this]; rfl
        · simp (config := { implicitDefEqProofs := false, maxDischargeDepth := 6, maxSteps := 1000000 }) only [go_sem, ↓reduceIte, Nat.reduceLT, Nat.reduceLeDiff, Nat.reduceEqDiff, Nat.reduceAdd, Nat.reduceMul, Nat.reduceSub, Nat.reduceBEq, reduceCtorEq, Int.reduceEq, Int.reduceLT, Int.reduceLE, Int.reduceNeg, Int.reduceToNat, h0, h1, h29, h30, h31, nv, hltZ, hz, hrc, hrx, hri, h.run, hg, hw]
          refine ⟨l.length - (k + 1), by omega, k + 1, rfl, by omega, ?_, ?_, ?_, ?_, ?_, rfl, ?_⟩
          all_goals try simp (config := { implicitDefEqProofs := false, maxDischargeDepth := 6, maxSteps := 1000000 }) only [go_sem, ↓reduceIte, Nat.reduceLT, Nat.reduceLeDiff, Nat.reduceEqDiff, Nat.reduceAdd, Nat.reduceMul, Nat.reduceSub, Nat.reduceBEq, reduceCtorEq, Int.reduceEq, Int.reduceLT, Int.reduceLE, Int.reduceNeg, Int.reduceToNat, h0, h1, h29, h30, h31, nv]
          intro i hi hik
          by_cases e : i = k
          · subst e; exact hg
          · exact hall i hi (by omega)
      · have hltZ : ¬ (k : Int) < (l.length : Int) := by omega
        have hpz : (0 : Int) < (l.length : Int) := by omega
        simp only [List.getElem_map, nv, Nat.add_zero] at hr0
        simp (config := { implicitDefEqProofs := false, maxDischargeDepth := 6, maxSteps := 1000000 }) only [go_sem, ↓reduceIte, Nat.reduceLT, Nat.reduceLeDiff, Nat.reduceEqDiff, Nat.reduceAdd, Nat.reduceMul, Nat.reduceSub, Nat.reduceBEq, reduceCtorEq, Int.reduceEq, Int.reduceLT, Int.reduceLE, Int.reduceNeg, Int.reduceToNat, h0, h1, h29, h30, h31, nv, hltZ, hpz, hrc, hrx, hr0, Nat.add_zero]
        rw [hn]
        have : l.find? (fun (i : Nat) => decide (S.last < (i : Int))) = none := by
          rw [List.find?_eq_none]
          intro x hx
          obtain ⟨i, hi, rfl⟩ := List.mem_iff_getElem.1 hx
          simpa using hall i hi (by omega)
        rw [this]
        simp [hlen]

/- a panic's value -/
def boom (n : Int) : Value := .iface 95 (.agg #[.int .i64 n])

theorem free_W {H : Heap} {r : Nat} {R : RunV} (hw : WF H) (hrb : base0 ≤ r) (hr : H.get r = some (runB R)) {i L : Int} (h0 : 0 ≤ L) (h4 : L < 4) :
   CW Try.prog 47 #[.pointer (some ⟨r, 0, none⟩), .int .i64 i, .int .i64 L] H fun x H' =>
     if R.locks L.toNat = i then x = .ret (.tuple #[]) ∧ H.set r (runB { R with locks := upd R.locks L.toNat (-1) }) = H' else x = .pan (boom (-1)) ∧ H = H' := by
  refine CW_k (n := 21) if47 rfl ?_
  unfold C47
  have hA : L.toNat < 4 := by omega
  by_cases he : R.locks L.toNat = i
  · simp (config := { implicitDefEqProofs := false, maxDischargeDepth := 6, maxSteps := 1000000 }) only [go_sem, ↓reduceIte, Nat.reduceLT, Nat.reduceLeDiff, Nat.reduceEqDiff, Nat.reduceAdd, Nat.reduceMul, Nat.reduceSub, Nat.reduceBEq, reduceCtorEq, Int.reduceEq, Int.reduceLT, Int.reduceLE, Int.reduceNeg, Int.reduceToNat, hr, h0, h4, hA, he, hrb]
  · simp (config := { implicitDefEqProofs := false, maxDischargeDepth := 6, maxSteps := 1000000 }) only [go_sem, ↓reduceIte, Nat.reduceLT, Nat.reduceLeDiff, Nat.reduceEqDiff, Nat.reduceAdd, Nat.reduceMul, Nat.reduceSub, Nat.reduceBEq, reduceCtorEq, Int.reduceEq, Int.reduceLT, Int.reduceLE, Int.reduceNeg, Int.reduceToNat, hr, h0, h4, hA, he, hrb]
    rfl

theorem caught_W {H : Heap} {r t : Nat} {R : RunV} {T : TaskV} {n : Int} (hw : WF H) (hrb : base0 ≤ r) (hr : H.get r = some (runB R)) (htb : base0 ≤ t) (ht : H.get t = some (taskB T)) :
   CW Try.prog 45 #[.pointer (some ⟨r, 0, none⟩), .pointer (some ⟨t, 0, none⟩), .int .i64 n] H fun x H' =>
     x = .ret (.tuple #[]) ∧ if T.guard < 0 then H.set t (taskB { T with died := true, n := n }) = H'
       else (H.set t (taskB { T with at_ := T.guard, guard := -1, wait := 0 })).set r (runB { R with regs := upd R.regs 7 n }) = H' := by
  refine CW_k (n := 36) if45 rfl ?_
  unfold C45
  have hrt : r ≠ t := by intro e; subst e; rw [hr] at ht; simp [runB, taskB] at ht
  by_cases hg : T.guard < 0
  · simp (config := { implicitDefEqProofs := false, maxDischargeDepth := 6, maxSteps := 1000000 }) only [go_sem, ↓reduceIte, Nat.reduceLT, Nat.reduceLeDiff, Nat.reduceEqDiff, Nat.reduceAdd, Nat.reduceMul, Nat.reduceSub, Nat.reduceBEq, reduceCtorEq, Int.reduceEq, Int.reduceLT, Int.reduceLE, Int.reduceNeg, Int.reduceToNat, hr, hg, hrb, htb, ht]
  · simp (config := { implicitDefEqProofs := false, maxDischargeDepth := 6, maxSteps := 1000000 }) only [go_sem, ↓reduceIte, Nat.reduceLT, Nat.reduceLeDiff, Nat.reduceEqDiff, Nat.reduceAdd, Nat.reduceMul, Nat.reduceSub, Nat.reduceBEq, reduceCtorEq, Int.reduceEq, Int.reduceLT, Int.reduceLE, Int.reduceNeg, Int.reduceToNat, hr, hg, hrb, htb, ht, hrt]
end Go.Am.T
