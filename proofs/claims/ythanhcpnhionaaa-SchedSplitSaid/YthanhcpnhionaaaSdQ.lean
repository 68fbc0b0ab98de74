/- The walk of the law SchedLocks. Conditions: those of each theorem. -/
import Derived.Test.YthanhcpnhionaaaSdP
set_option linter.all false
set_option linter.unusedSimpArgs false
set_option linter.unusedVariables false
namespace Go.Am.T
open Go Go.Am Go.Proofs.Ythanhcpnhionaaa Go.Proofs

theorem RanAt.of {lo : Nat} {H H' : Heap} {S : Sx} {trv rgv ev qsv : Value} {qv : Nat → Value} (h : RanAt lo H S trv rgv ev qsv qv) (hw : WF H) (e : Ext H H') : RanAt lo H' S trv rgv ev qsv qv :=
  ⟨h.trace.frame fun b x hb hg => ⟨hb, e.of hw hg⟩, h.regs.frame fun b x hb hg => ⟨hb, e.of hw hg⟩, h.ends.frame fun b x hb hg => ⟨hb, e.of hw hg⟩, h.queues.frame fun b x hb hg => ⟨hb, e.of hw hg⟩,
   fun j hj => (h.queue j hj).frame fun b x hb hg => ⟨hb, e.of hw hg⟩⟩

theorem pair_at {p : Nat → Prop} {H : Heap} {ty N : Nat} {v : Value} {f g : Nat → Value} (h : OwnL p H 2 ty v N ((List.range N).flatMap fun i => [f i, g i])) {i : Nat} (hi : i < N) :
    ∃ b o c x, v = .slice (some ⟨b, o, none⟩) N c ∧ c ≠ 0 ∧ H.get b = some x ∧ x.cells[o + i * 2]? = some (f i) ∧ x.cells[o + i * 2 + 1]? = some (g i) := by
  rcases h with ⟨_, h2, _⟩ | ⟨b, o, pre, rfl, _, _, h4, h5, _⟩
  · omega
  · have key : ∀ N i, i < N → ((List.range N).flatMap fun i => [f i, g i])[i * 2]? = some (f i) ∧ ((List.range N).flatMap fun i => [f i, g i])[i * 2 + 1]? = some (g i) := by
      intro N
      induction N with
      | zero => intro i hi; omega
      | succ N ih =>
        intro i hi
        have hl : ((List.range N).flatMap fun i => [f i, g i]).length = N * 2 := by
          clear ih hi
          induction N with
          | zero => rfl
          | succ N ih => rw [List.range_succ, List.flatMap_append, List.length_append, ih]; simp; omega
        rw [List.range_succ, List.flatMap_append]
        by_cases e : i = N
        · subst e
          rw [List.getElem?_append_right (by omega), List.getElem?_append_right (by omega), hl]
          simp
        · rw [List.getElem?_append_left (by omega), List.getElem?_append_left (by omega)]
          exact ih i (by omega)
    obtain ⟨k1, k2⟩ := key N i hi
    refine ⟨b, o, openCap, _, rfl, by unfold openCap; omega, h4, ?_, ?_⟩
    · subst h5
      rw [List.getElem?_append_right (by omega), Nat.add_sub_cancel_left]; exact k1
    · subst h5
      rw [List.getElem?_append_right (by omega), Nat.add_assoc, Nat.add_sub_cancel_left]; exact k2

/- is no pick below 0? -/
def nonneg (picks : List Int) : Prop := ∀ p ∈ picks, 0 ≤ p

def blkL (y : Bool) (i : Nat) : List Act := [⟨1, 2, 0, 0⟩, ⟨9, 0, 1, 0⟩] ++ (if y then [⟨11, 0, 0, 0⟩] else []) ++ [⟨8, 1, 0, (i + 1 : Nat)⟩, ⟨9, 1, 0, 0⟩, ⟨2, 2, 0, 0⟩]
def tskL (y : Bool) (i : Nat) : Nat → List Act
  | 0 => []
  | t + 1 => tskL y i t ++ blkL y i
def tsL (y : Bool) (n t : Nat) : List (List Act) := (List.range n).map fun i => tskL y i t

theorem blkL_len (y : Bool) (i : Nat) : (blkL y i).length ≤ 6 := by cases y <;> simp [blkL]
theorem tskL_len (y : Bool) (i : Nat) : ∀ t, (tskL y i t).length ≤ 6 * t
  | 0 => Nat.le_refl _
  | t + 1 => by
    have h1 := tskL_len y i t
    have h2 := blkL_len y i
    rw [tskL, List.length_append]; omega
theorem tsL_succ (y : Bool) (n t : Nat) : tsL y (n + 1) t = tsL y n t ++ [tskL y n t] := by unfold tsL; rw [List.range_succ, List.map_append]; rfl
theorem tsL_len (y : Bool) (n t : Nat) : (tsL y n t).length = n := by simp [tsL]

structure LocksOk (y : Bool) (n t : Nat) (picks : List Int) : Prop where
  ask : askedP (tsL y n t) 1 picks 65536 = 0
  done : ∀ i, i < n → howS (runM 65536 (S0 (tsL y n t) 1) picks) i = 1
  reg : (runM 65536 (S0 (tsL y n t) 1) picks).regs 0 = ((t * n * (n + 1) / 2 : Nat) : Int)

theorem locks_W (old : Nat → Option Blk) (hw : WF ⟨old, .nil, base0⟩) {n t : Int} {y : Bool} {pv : Value} {picks : List Int} (hp : RdI ⟨old, .nil, base0⟩ pv (picks.map iv))
    (pure : ∀ n t : Nat, 1 ≤ n → n ≤ 7 → 1 ≤ t → t ≤ 8 → picks.length ≤ 3000 → nonneg picks → LocksOk y n t picks) :
    CW Try.prog 5 #[.int .i64 n, .int .i64 t, pv, .bool y] ⟨old, .nil, base0⟩ fun x _ => x = .ret (.bool true) := by
  refine CW_k (n := 126) if5 rfl ?_
  unfold C5
  obtain ⟨pa, pc, hpv, _⟩ := id hp
  simp only [List.length_map] at hpv
  simp (config := { implicitDefEqProofs := false, maxDischargeDepth := 6, maxSteps := 1000000 }) only [go_sem, ↓reduceIte, Nat.reduceLT, Nat.reduceLeDiff, Nat.reduceEqDiff, Nat.reduceAdd, Nat.reduceMul, Nat.reduceSub, Nat.reduceBEq, reduceCtorEq, Int.reduceEq, Int.reduceLT, Int.reduceLE, Int.reduceNeg, Int.reduceToNat, ]
  refine CW_mono _ (begun_law old) ?_
  rintro _ H0 ⟨rfl, hE0⟩
  simp (config := { implicitDefEqProofs := false, maxDischargeDepth := 6, maxSteps := 1000000 }) only [go_sem, ↓reduceIte, Nat.reduceLT, Nat.reduceLeDiff, Nat.reduceEqDiff, Nat.reduceAdd, Nat.reduceMul, Nat.reduceSub, Nat.reduceBEq, reduceCtorEq, Int.reduceEq, Int.reduceLT, Int.reduceLE, Int.reduceNeg, Int.reduceToNat, ]
  by_cases c1 : n < 1
  · simp (config := { implicitDefEqProofs := false, maxDischargeDepth := 6, maxSteps := 1000000 }) only [go_sem, ↓reduceIte, Nat.reduceLT, Nat.reduceLeDiff, Nat.reduceEqDiff, Nat.reduceAdd, Nat.reduceMul, Nat.reduceSub, Nat.reduceBEq, reduceCtorEq, Int.reduceEq, Int.reduceLT, Int.reduceLE, Int.reduceNeg, Int.reduceToNat, c1]
  by_cases c2 : 7 < n
  · simp (config := { implicitDefEqProofs := false, maxDischargeDepth := 6, maxSteps := 1000000 }) only [go_sem, ↓reduceIte, Nat.reduceLT, Nat.reduceLeDiff, Nat.reduceEqDiff, Nat.reduceAdd, Nat.reduceMul, Nat.reduceSub, Nat.reduceBEq, reduceCtorEq, Int.reduceEq, Int.reduceLT, Int.reduceLE, Int.reduceNeg, Int.reduceToNat, c1, c2]
  by_cases c3 : t < 1
  · simp (config := { implicitDefEqProofs := false, maxDischargeDepth := 6, maxSteps := 1000000 }) only [go_sem, ↓reduceIte, Nat.reduceLT, Nat.reduceLeDiff, Nat.reduceEqDiff, Nat.reduceAdd, Nat.reduceMul, Nat.reduceSub, Nat.reduceBEq, reduceCtorEq, Int.reduceEq, Int.reduceLT, Int.reduceLE, Int.reduceNeg, Int.reduceToNat, c1, c2, c3]
  by_cases c4 : 8 < t
  · simp (config := { implicitDefEqProofs := false, maxDischargeDepth := 6, maxSteps := 1000000 }) only [go_sem, ↓reduceIte, Nat.reduceLT, Nat.reduceLeDiff, Nat.reduceEqDiff, Nat.reduceAdd, Nat.reduceMul, Nat.reduceSub, Nat.reduceBEq, reduceCtorEq, Int.reduceEq, Int.reduceLT, Int.reduceLE, Int.reduceNeg, Int.reduceToNat, c1, c2, c3, c4]
  by_cases c5 : 3000 < picks.length
  · have c5Z : (3000 : Int) < (picks.length : Int) := by omega
    simp (config := { implicitDefEqProofs := false, maxDischargeDepth := 6, maxSteps := 1000000 }) only [go_sem, ↓reduceIte, Nat.reduceLT, Nat.reduceLeDiff, Nat.reduceEqDiff, Nat.reduceAdd, Nat.reduceMul, Nat.reduceSub, Nat.reduceBEq, reduceCtorEq, Int.reduceEq, Int.reduceLT, Int.reduceLE, Int.reduceNeg, Int.reduceToNat, c1, c2, c3, c4, hpv, goInt, c5Z]
  have c5Z : ¬ (3000 : Int) < (picks.length : Int) := by omega
  simp (config := { implicitDefEqProofs := false, maxDischargeDepth := 6, maxSteps := 1000000 }) only [go_sem, ↓reduceIte, Nat.reduceLT, Nat.reduceLeDiff, Nat.reduceEqDiff, Nat.reduceAdd, Nat.reduceMul, Nat.reduceSub, Nat.reduceBEq, reduceCtorEq, Int.reduceEq, Int.reduceLT, Int.reduceLE, Int.reduceNeg, Int.reduceToNat, c1, c2, c3, c4, hpv, goInt, c5Z]
  obtain ⟨n, rfl⟩ : ∃ k : Nat, n = (k : Int) := ⟨n.toNat, by omega⟩
  obtain ⟨t, rfl⟩ : ∃ k : Nat, t = (k : Int) := ⟨t.toNat, by omega⟩
  have hw0 := hE0.wf
  have hp0 : RdI H0 pv (picks.map iv) := hp.of fun b x hb => hE0.of hw hb
  refine Wk_loopF (fun m f G => ∃ k, m = picks.length - k ∧ k ≤ picks.length ∧ f.get 0 = some (nv n) ∧ f.get 1 = some (nv t) ∧ f.get 2 = some (.slice pa picks.length pc) ∧ f.get 3 = some (.bool y) ∧ f.get 9 = some (nv k) ∧ G = H0 ∧ ∀ i (h : i < picks.length), i < k → 0 ≤ picks[i]) picks.length ?_ ?_
  · refine ⟨0, by omega, by omega, ?_, ?_, ?_, ?_, ?_, rfl, by omega⟩
    all_goals simp (config := { implicitDefEqProofs := false, maxDischargeDepth := 6, maxSteps := 1000000 }) only [go_sem, ↓reduceIte, Nat.reduceLT, Nat.reduceLeDiff, Nat.reduceEqDiff, Nat.reduceAdd, Nat.reduceMul, Nat.reduceSub, Nat.reduceBEq, reduceCtorEq, Int.reduceEq, Int.reduceLT, Int.reduceLE, Int.reduceNeg, Int.reduceToNat, nv]
    rfl
  rintro m f G ⟨k, rfl, hk, f0, f1, f2, f3, f9, hG, hall⟩
  subst G
  unfold L5_1
  by_cases hlt : k < picks.length
  · have hltZ : (k : Int) < (picks.length : Int) := by omega
    have hk0 : (0 : Int) ≤ (k : Int) := by omega
    have hw1 : IntKind.i64.wrap ((k : Int) + 1) = ((k + 1 : Nat) : Int) := IntWalk.i64_in _ (by omega)
    obtain ⟨b, o, c, x, hv, hc, hx, hxk⟩ := hp0.at_ (i := k) (by simpa using hlt)
    rw [hpv] at hv
    simp only [Value.slice.injEq, List.length_map, true_and] at hv
    obtain ⟨rfl, rfl⟩ := hv
    simp only [List.getElem_map, iv] at hxk
    by_cases hn : picks[k] < 0
    · simp (config := { implicitDefEqProofs := false, maxDischargeDepth := 6, maxSteps := 1000000 }) only [go_sem, ↓reduceIte, Nat.reduceLT, Nat.reduceLeDiff, Nat.reduceEqDiff, Nat.reduceAdd, Nat.reduceMul, Nat.reduceSub, Nat.reduceBEq, reduceCtorEq, Int.reduceEq, Int.reduceLT, Int.reduceLE, Int.reduceNeg, Int.reduceToNat, f0, f1, f2, f3, f9, nv, hltZ, hk0, hc, hx, hxk, hn, goInt]
    · simp (config := { implicitDefEqProofs := false, maxDischargeDepth := 6, maxSteps := 1000000 }) only [go_sem, ↓reduceIte, Nat.reduceLT, Nat.reduceLeDiff, Nat.reduceEqDiff, Nat.reduceAdd, Nat.reduceMul, Nat.reduceSub, Nat.reduceBEq, reduceCtorEq, Int.reduceEq, Int.reduceLT, Int.reduceLE, Int.reduceNeg, Int.reduceToNat, f0, f1, f2, f3, f9, nv, hltZ, hk0, hc, hx, hxk, hn, goInt, hw1]
      refine ⟨picks.length - (k + 1), by omega, k + 1, rfl, by omega, ?_, ?_, ?_, ?_, ?_, rfl, ?_⟩
      · simp (config := { implicitDefEqProofs := false, maxDischargeDepth := 6, maxSteps := 1000000 }) only [go_sem, ↓reduceIte, Nat.reduceLT, Nat.reduceLeDiff, Nat.reduceEqDiff, Nat.reduceAdd, Nat.reduceMul, Nat.reduceSub, Nat.reduceBEq, reduceCtorEq, Int.reduceEq, Int.reduceLT, Int.reduceLE, Int.reduceNeg, Int.reduceToNat, f0, nv]
      · simp (config := { implicitDefEqProofs := false, maxDischargeDepth := 6, maxSteps := 1000000 }) only [go_sem, ↓reduceIte, Nat.reduceLT, Nat.reduceLeDiff, Nat.reduceEqDiff, Nat.reduceAdd, Nat.reduceMul, Nat.reduceSub, Nat.reduceBEq, reduceCtorEq, Int.reduceEq, Int.reduceLT, Int.reduceLE, Int.reduceNeg, Int.reduceToNat, f1, nv]
      · simp (config := { implicitDefEqProofs := false, maxDischargeDepth := 6, maxSteps := 1000000 }) only [go_sem, ↓reduceIte, Nat.reduceLT, Nat.reduceLeDiff, Nat.reduceEqDiff, Nat.reduceAdd, Nat.reduceMul, Nat.reduceSub, Nat.reduceBEq, reduceCtorEq, Int.reduceEq, Int.reduceLT, Int.reduceLE, Int.reduceNeg, Int.reduceToNat, f2]
      · simp (config := { implicitDefEqProofs := false, maxDischargeDepth := 6, maxSteps := 1000000 }) only [go_sem, ↓reduceIte, Nat.reduceLT, Nat.reduceLeDiff, Nat.reduceEqDiff, Nat.reduceAdd, Nat.reduceMul, Nat.reduceSub, Nat.reduceBEq, reduceCtorEq, Int.reduceEq, Int.reduceLT, Int.reduceLE, Int.reduceNeg, Int.reduceToNat, f3]
      · simp (config := { implicitDefEqProofs := false, maxDischargeDepth := 6, maxSteps := 1000000 }) only [go_sem, ↓reduceIte, Nat.reduceLT, Nat.reduceLeDiff, Nat.reduceEqDiff, Nat.reduceAdd, Nat.reduceMul, Nat.reduceSub, Nat.reduceBEq, reduceCtorEq, Int.reduceEq, Int.reduceLT, Int.reduceLE, Int.reduceNeg, Int.reduceToNat, nv]
      · intro i h hi
        by_cases e : i = k
        · subst e; omega
        · exact hall i h (by omega)
  have hltZ : ¬ (k : Int) < (picks.length : Int) := by omega
  obtain rfl : k = picks.length := by omega
  have hnn : nonneg picks := by
    intro p hpm
    obtain ⟨i, hi, rfl⟩ := List.mem_iff_getElem.1 hpm
    exact hall i hi hi
  have hOk := pure n t (by omega) (by omega) (by omega) (by omega) (by omega) hnn
  simp (config := { implicitDefEqProofs := false, maxDischargeDepth := 6, maxSteps := 1000000 }) only [go_sem, ↓reduceIte, Nat.reduceLT, Nat.reduceLeDiff, Nat.reduceEqDiff, Nat.reduceAdd, Nat.reduceMul, Nat.reduceSub, Nat.reduceBEq, reduceCtorEq, Int.reduceEq, Int.reduceLT, Int.reduceLE, Int.reduceNeg, Int.reduceToNat, f0, f1, f2, f3, f9, nv, hltZ, goInt]
  refine Wk_loopF (fun m f G => ∃ k tv av, m = n - k ∧ k ≤ n ∧ f.get 0 = some (nv n) ∧ f.get 1 = some (nv t) ∧ f.get 2 = some (.slice pa picks.length pc) ∧ f.get 3 = some (.bool y) ∧ f.get 10 = some tv ∧ f.get 11 = some (nv k) ∧ MadeT H0 G tv (tsL y k t) av) n ?_ ?_
  · refine ⟨0, .slice none 0 0, fun _ => .slice none 0 0, by omega, by omega, ?_, ?_, ?_, ?_, ?_, ?_, MadeT.nil (Ext.refl hw0)⟩
    all_goals simp (config := { implicitDefEqProofs := false, maxDischargeDepth := 6, maxSteps := 1000000 }) only [go_sem, ↓reduceIte, Nat.reduceLT, Nat.reduceLeDiff, Nat.reduceEqDiff, Nat.reduceAdd, Nat.reduceMul, Nat.reduceSub, Nat.reduceBEq, reduceCtorEq, Int.reduceEq, Int.reduceLT, Int.reduceLE, Int.reduceNeg, Int.reduceToNat, f0, f1, f2, f3, nv]
    rfl
  clear f0 f1 f2 f3 f9 hall
  rintro m f G ⟨k, tv, av, rfl, hk, f0, f1, f2, f3, f10, f11, hM⟩
  unfold L5_3
  by_cases hlt2 : k < n
  · have hltZ2 : (k : Int) < (n : Int) := by omega
    have hw2 : IntKind.i64.wrap ((k : Int) + 1) = ((k + 1 : Nat) : Int) := IntWalk.i64_in _ (by omega)
    simp (config := { implicitDefEqProofs := false, maxDischargeDepth := 6, maxSteps := 1000000 }) only [go_sem, ↓reduceIte, Nat.reduceLT, Nat.reduceLeDiff, Nat.reduceEqDiff, Nat.reduceAdd, Nat.reduceMul, Nat.reduceSub, Nat.reduceBEq, reduceCtorEq, Int.reduceEq, Int.reduceLT, Int.reduceLE, Int.reduceNeg, Int.reduceToNat, f0, f1, f2, f3, f10, f11, nv, hltZ2]
    refine Wk_loopF (fun m f G2 => ∃ j lv, m = t - j ∧ j ≤ t ∧ f.get 0 = some (nv n) ∧ f.get 1 = some (nv t) ∧ f.get 2 = some (.slice pa picks.length pc) ∧ f.get 3 = some (.bool y) ∧ f.get 10 = some tv ∧ f.get 11 = some (nv k) ∧ f.get 12 = some lv ∧ f.get 13 = some (nv j) ∧
      Ext G G2 ∧ OwnL (fun b => G.next ≤ b) G2 4 47 lv (tskL y k j).length (actC (tskL y k j))) t ?_ ?_
    · refine ⟨0, .slice none 0 0, by omega, by omega, ?_, ?_, ?_, ?_, ?_, ?_, ?_, ?_, Ext.refl hM.ext.wf, .inl ⟨rfl, rfl, rfl⟩⟩
      all_goals simp (config := { implicitDefEqProofs := false, maxDischargeDepth := 6, maxSteps := 1000000 }) only [go_sem, ↓reduceIte, Nat.reduceLT, Nat.reduceLeDiff, Nat.reduceEqDiff, Nat.reduceAdd, Nat.reduceMul, Nat.reduceSub, Nat.reduceBEq, reduceCtorEq, Int.reduceEq, Int.reduceLT, Int.reduceLE, Int.reduceNeg, Int.reduceToNat, f0, f1, f2, f3, f10, f11, nv]
      rfl
    clear f0 f1 f2 f3 f10 f11
    rintro m f G2 ⟨j, lv, rfl, hj, f0, f1, f2, f3, f10, f11, f12, f13, hE2, hL⟩
    unfold L5_2
    by_cases hlt3 : j < t
    · have hltZ3 : (j : Int) < (t : Int) := by omega
      have hw3 : IntKind.i64.wrap ((j : Int) + 1) = ((j + 1 : Nat) : Int) := IntWalk.i64_in _ (by omega)
      have hlen := tskL_len y k j
      obtain ⟨la, lc, rfl⟩ := hL.sl
      simp (config := { implicitDefEqProofs := false, maxDischargeDepth := 6, maxSteps := 1000000 }) only [go_sem, ↓reduceIte, Nat.reduceLT, Nat.reduceLeDiff, Nat.reduceEqDiff, Nat.reduceAdd, Nat.reduceMul, Nat.reduceSub, Nat.reduceBEq, reduceCtorEq, Int.reduceEq, Int.reduceLT, Int.reduceLE, Int.reduceNeg, Int.reduceToNat, f0, f1, f2, f3, f10, f11, f12, f13, nv, hltZ3]
      obtain ⟨G3, lv3, ha3, hE3, hL3⟩ := pushActs (m := 2) (cells := [.int .i64 1, .int .i64 2, .int .i64 0, .int .i64 0, .int .i64 9, .int .i64 0, .int .i64 1, .int .i64 0]) (new := [⟨1, 2, 0, 0⟩, ⟨9, 0, 1, 0⟩]) hE2 hL rfl rfl (by simp) (by simp; omega)
      refine Wk_vh ha3 ?_
      have hlen3 : (tskL y k j ++ [⟨1, 2, 0, 0⟩, ⟨9, 0, 1, 0⟩] : List Act).length ≤ 6 * j + 2 := by rw [List.length_append]; simp; omega
      cases y with
      | true =>
        obtain ⟨la3, lc3, rfl⟩ := hL3.sl
        simp (config := { implicitDefEqProofs := false, maxDischargeDepth := 6, maxSteps := 1000000 }) only [go_sem, ↓reduceIte, Nat.reduceLT, Nat.reduceLeDiff, Nat.reduceEqDiff, Nat.reduceAdd, Nat.reduceMul, Nat.reduceSub, Nat.reduceBEq, reduceCtorEq, Int.reduceEq, Int.reduceLT, Int.reduceLE, Int.reduceNeg, Int.reduceToNat, f0, f1, f2, f3, f10, f11, f12, f13, nv]
        obtain ⟨G4, lv4, ha4, hE4, hL4⟩ := pushActs (m := 1) (cells := [.int .i64 11, .int .i64 0, .int .i64 0, .int .i64 0]) (new := [⟨11, 0, 0, 0⟩]) hE3 hL3 rfl rfl (by simp) (by rw [List.length_append] at hlen3; simp at hlen3 ⊢; omega)
        refine Wk_vh ha4 ?_
        obtain ⟨la4, lc4, rfl⟩ := hL4.sl
        have hkk : IntKind.i64.wrap ((k : Int) + 1) = ((k + 1 : Nat) : Int) := IntWalk.i64_in _ (by omega)
        simp (config := { implicitDefEqProofs := false, maxDischargeDepth := 6, maxSteps := 1000000 }) only [go_sem, ↓reduceIte, Nat.reduceLT, Nat.reduceLeDiff, Nat.reduceEqDiff, Nat.reduceAdd, Nat.reduceMul, Nat.reduceSub, Nat.reduceBEq, reduceCtorEq, Int.reduceEq, Int.reduceLT, Int.reduceLE, Int.reduceNeg, Int.reduceToNat, f0, f1, f2, f3, f10, f11, f12, f13, nv, hkk]
        obtain ⟨G5, lv5, ha5, hE5, hL5⟩ := pushActs (m := 3) (cells := [.int .i64 8, .int .i64 1, .int .i64 0, .int .i64 ((k + 1 : Nat) : Int), .int .i64 9, .int .i64 1, .int .i64 0, .int .i64 0, .int .i64 2, .int .i64 2, .int .i64 0, .int .i64 0]) (new := [⟨8, 1, 0, (k + 1 : Nat)⟩, ⟨9, 1, 0, 0⟩, ⟨2, 2, 0, 0⟩]) hE4 hL4 rfl rfl (by simp) (by rw [List.length_append] at hlen3; simp at hlen3 ⊢; omega)
        refine Wk_vh ha5 ?_
        simp (config := { implicitDefEqProofs := false, maxDischargeDepth := 6, maxSteps := 1000000 }) only [go_sem, ↓reduceIte, Nat.reduceLT, Nat.reduceLeDiff, Nat.reduceEqDiff, Nat.reduceAdd, Nat.reduceMul, Nat.reduceSub, Nat.reduceBEq, reduceCtorEq, Int.reduceEq, Int.reduceLT, Int.reduceLE, Int.reduceNeg, Int.reduceToNat, f0, f1, f2, f3, f10, f11, f12, f13, nv, hw3]
        have heq : tskL true k (j + 1) = (tskL true k j ++ [⟨1, 2, 0, 0⟩, ⟨9, 0, 1, 0⟩] ++ [⟨11, 0, 0, 0⟩]) ++ [⟨8, 1, 0, (k + 1 : Nat)⟩, ⟨9, 1, 0, 0⟩, ⟨2, 2, 0, 0⟩] := by simp [tskL, blkL]
        refine ⟨t - (j + 1), by omega, j + 1, lv5, rfl, by omega, ?_, ?_, ?_, ?_, ?_, ?_, ?_, ?_, hE5, ?_⟩
        · simp (config := { implicitDefEqProofs := false, maxDischargeDepth := 6, maxSteps := 1000000 }) only [go_sem, ↓reduceIte, Nat.reduceLT, Nat.reduceLeDiff, Nat.reduceEqDiff, Nat.reduceAdd, Nat.reduceMul, Nat.reduceSub, Nat.reduceBEq, reduceCtorEq, Int.reduceEq, Int.reduceLT, Int.reduceLE, Int.reduceNeg, Int.reduceToNat, f0, nv]
        · simp (config := { implicitDefEqProofs := false, maxDischargeDepth := 6, maxSteps := 1000000 }) only [go_sem, ↓reduceIte, Nat.reduceLT, Nat.reduceLeDiff, Nat.reduceEqDiff, Nat.reduceAdd, Nat.reduceMul, Nat.reduceSub, Nat.reduceBEq, reduceCtorEq, Int.reduceEq, Int.reduceLT, Int.reduceLE, Int.reduceNeg, Int.reduceToNat, f1, nv]
        · simp (config := { implicitDefEqProofs := false, maxDischargeDepth := 6, maxSteps := 1000000 }) only [go_sem, ↓reduceIte, Nat.reduceLT, Nat.reduceLeDiff, Nat.reduceEqDiff, Nat.reduceAdd, Nat.reduceMul, Nat.reduceSub, Nat.reduceBEq, reduceCtorEq, Int.reduceEq, Int.reduceLT, Int.reduceLE, Int.reduceNeg, Int.reduceToNat, f2]
        · simp (config := { implicitDefEqProofs := false, maxDischargeDepth := 6, maxSteps := 1000000 }) only [go_sem, ↓reduceIte, Nat.reduceLT, Nat.reduceLeDiff, Nat.reduceEqDiff, Nat.reduceAdd, Nat.reduceMul, Nat.reduceSub, Nat.reduceBEq, reduceCtorEq, Int.reduceEq, Int.reduceLT, Int.reduceLE, Int.reduceNeg, Int.reduceToNat, f3]
        · simp (config := { implicitDefEqProofs := false, maxDischargeDepth := 6, maxSteps := 1000000 }) only [go_sem, ↓reduceIte, Nat.reduceLT, Nat.reduceLeDiff, Nat.reduceEqDiff, Nat.reduceAdd, Nat.reduceMul, Nat.reduceSub, Nat.reduceBEq, reduceCtorEq, Int.reduceEq, Int.reduceLT, Int.reduceLE, Int.reduceNeg, Int.reduceToNat, f10]
        · simp (config := { implicitDefEqProofs := false, maxDischargeDepth := 6, maxSteps := 1000000 }) only [go_sem, ↓reduceIte, Nat.reduceLT, Nat.reduceLeDiff, Nat.reduceEqDiff, Nat.reduceAdd, Nat.reduceMul, Nat.reduceSub, Nat.reduceBEq, reduceCtorEq, Int.reduceEq, Int.reduceLT, Int.reduceLE, Int.reduceNeg, Int.reduceToNat, f11, nv]
        · simp (config := { implicitDefEqProofs := false, maxDischargeDepth := 6, maxSteps := 1000000 }) only [go_sem, ↓reduceIte, Nat.reduceLT, Nat.reduceLeDiff, Nat.reduceEqDiff, Nat.reduceAdd, Nat.reduceMul, Nat.reduceSub, Nat.reduceBEq, reduceCtorEq, Int.reduceEq, Int.reduceLT, Int.reduceLE, Int.reduceNeg, Int.reduceToNat, ]
        · simp (config := { implicitDefEqProofs := false, maxDischargeDepth := 6, maxSteps := 1000000 }) only [go_sem, ↓reduceIte, Nat.reduceLT, Nat.reduceLeDiff, Nat.reduceEqDiff, Nat.reduceAdd, Nat.reduceMul, Nat.reduceSub, Nat.reduceBEq, reduceCtorEq, Int.reduceEq, Int.reduceLT, Int.reduceLE, Int.reduceNeg, Int.reduceToNat, nv]
        · rw [heq]; exact hL5
      | false =>
        obtain ⟨la3, lc3, rfl⟩ := hL3.sl
        have hkk : IntKind.i64.wrap ((k : Int) + 1) = ((k + 1 : Nat) : Int) := IntWalk.i64_in _ (by omega)
        simp (config := { implicitDefEqProofs := false, maxDischargeDepth := 6, maxSteps := 1000000 }) only [go_sem, ↓reduceIte, Nat.reduceLT, Nat.reduceLeDiff, Nat.reduceEqDiff, Nat.reduceAdd, Nat.reduceMul, Nat.reduceSub, Nat.reduceBEq, reduceCtorEq, Int.reduceEq, Int.reduceLT, Int.reduceLE, Int.reduceNeg, Int.reduceToNat, f0, f1, f2, f3, f10, f11, f12, f13, nv, hkk]
        obtain ⟨G5, lv5, ha5, hE5, hL5⟩ := pushActs (m := 3) (cells := [.int .i64 8, .int .i64 1, .int .i64 0, .int .i64 ((k + 1 : Nat) : Int), .int .i64 9, .int .i64 1, .int .i64 0, .int .i64 0, .int .i64 2, .int .i64 2, .int .i64 0, .int .i64 0]) (new := [⟨8, 1, 0, (k + 1 : Nat)⟩, ⟨9, 1, 0, 0⟩, ⟨2, 2, 0, 0⟩]) hE3 hL3 rfl rfl (by simp) (by rw [List.length_append] at hlen3; simp at hlen3 ⊢; omega)
        refine Wk_vh ha5 ?_
        simp (config := { implicitDefEqProofs := false, maxDischargeDepth := 6, maxSteps := 1000000 }) only [go_sem, ↓reduceIte, Nat.reduceLT, Nat.reduceLeDiff, Nat.reduceEqDiff, Nat.reduceAdd, Nat.reduceMul, Nat.reduceSub, Nat.reduceBEq, reduceCtorEq, Int.reduceEq, Int.reduceLT, Int.reduceLE, Int.reduceNeg, Int.reduceToNat, f0, f1, f2, f3, f10, f11, f12, f13, nv, hw3]
        have heq : tskL false k (j + 1) = (tskL false k j ++ [⟨1, 2, 0, 0⟩, ⟨9, 0, 1, 0⟩]) ++ [⟨8, 1, 0, (k + 1 : Nat)⟩, ⟨9, 1, 0, 0⟩, ⟨2, 2, 0, 0⟩] := by simp [tskL, blkL]
        refine ⟨t - (j + 1), by omega, j + 1, lv5, rfl, by omega, ?_, ?_, ?_, ?_, ?_, ?_, ?_, ?_, hE5, ?_⟩
        · simp (config := { implicitDefEqProofs := false, maxDischargeDepth := 6, maxSteps := 1000000 }) only [go_sem, ↓reduceIte, Nat.reduceLT, Nat.reduceLeDiff, Nat.reduceEqDiff, Nat.reduceAdd, Nat.reduceMul, Nat.reduceSub, Nat.reduceBEq, reduceCtorEq, Int.reduceEq, Int.reduceLT, Int.reduceLE, Int.reduceNeg, Int.reduceToNat, f0, nv]
        · simp (config := { implicitDefEqProofs := false, maxDischargeDepth := 6, maxSteps := 1000000 }) only [go_sem, ↓reduceIte, Nat.reduceLT, Nat.reduceLeDiff, Nat.reduceEqDiff, Nat.reduceAdd, Nat.reduceMul, Nat.reduceSub, Nat.reduceBEq, reduceCtorEq, Int.reduceEq, Int.reduceLT, Int.reduceLE, Int.reduceNeg, Int.reduceToNat, f1, nv]
        · simp (config := { implicitDefEqProofs := false, maxDischargeDepth := 6, maxSteps := 1000000 }) only [go_sem, ↓reduceIte, Nat.reduceLT, Nat.reduceLeDiff, Nat.reduceEqDiff, Nat.reduceAdd, Nat.reduceMul, Nat.reduceSub, Nat.reduceBEq, reduceCtorEq, Int.reduceEq, Int.reduceLT, Int.reduceLE, Int.reduceNeg, Int.reduceToNat, f2]
        · simp (config := { implicitDefEqProofs := false, maxDischargeDepth := 6, maxSteps := 1000000 }) only [go_sem, ↓reduceIte, Nat.reduceLT, Nat.reduceLeDiff, Nat.reduceEqDiff, Nat.reduceAdd, Nat.reduceMul, Nat.reduceSub, Nat.reduceBEq, reduceCtorEq, Int.reduceEq, Int.reduceLT, Int.reduceLE, Int.reduceNeg, Int.reduceToNat, f3]
        · simp (config := { implicitDefEqProofs := false, maxDischargeDepth := 6, maxSteps := 1000000 }) only [go_sem, ↓reduceIte, Nat.reduceLT, Nat.reduceLeDiff, Nat.reduceEqDiff, Nat.reduceAdd, Nat.reduceMul, Nat.reduceSub, Nat.reduceBEq, reduceCtorEq, Int.reduceEq, Int.reduceLT, Int.reduceLE, Int.reduceNeg, Int.reduceToNat, f10]
        · simp (config := { implicitDefEqProofs := false, maxDischargeDepth := 6, maxSteps := 1000000 }) only [go_sem, ↓reduceIte, Nat.reduceLT, Nat.reduceLeDiff, Nat.reduceEqDiff, Nat.reduceAdd, Nat.reduceMul, Nat.reduceSub, Nat.reduceBEq, reduceCtorEq, Int.reduceEq, Int.reduceLT, Int.reduceLE, Int.reduceNeg, Int.reduceToNat, f11, nv]
        · simp (config := { implicitDefEqProofs := false, maxDischargeDepth := 6, maxSteps := 1000000 }) only [go_sem, ↓reduceIte, Nat.reduceLT, Nat.reduceLeDiff, Nat.reduceEqDiff, Nat.reduceAdd, Nat.reduceMul, Nat.reduceSub, Nat.reduceBEq, reduceCtorEq, Int.reduceEq, Int.reduceLT, Int.reduceLE, Int.reduceNeg, Int.reduceToNat, ]
        · simp (config := { implicitDefEqProofs := false, maxDischargeDepth := 6, maxSteps := 1000000 }) only [go_sem, ↓reduceIte, Nat.reduceLT, Nat.reduceLeDiff, Nat.reduceEqDiff, Nat.reduceAdd, Nat.reduceMul, Nat.reduceSub, Nat.reduceBEq, reduceCtorEq, Int.reduceEq, Int.reduceLT, Int.reduceLE, Int.reduceNeg, Int.reduceToNat, nv]
        · rw [heq]; exact hL5
    · have hltZ3 : ¬ (j : Int) < (t : Int) := by omega
      obtain rfl : j = t := by omega
      obtain ⟨la, lc, rfl⟩ := hL.sl
      obtain ⟨ta, tc, rfl⟩ := hM.out.sl
      simp (config := { implicitDefEqProofs := false, maxDischargeDepth := 6, maxSteps := 1000000 }) only [go_sem, ↓reduceIte, Nat.reduceLT, Nat.reduceLeDiff, Nat.reduceEqDiff, Nat.reduceAdd, Nat.reduceMul, Nat.reduceSub, Nat.reduceBEq, reduceCtorEq, Int.reduceEq, Int.reduceLT, Int.reduceLE, Int.reduceNeg, Int.reduceToNat, f0, f1, f2, f3, f10, f11, f12, f13, nv, hltZ3]
      have hM2 := (hM.of hE2).of ((Ext.refl hE2.wf).alloc (⟨45, 0, false, [.slice la (tskL y k j).length lc]⟩ : Blk))
      obtain ⟨G6, tv6, ha6, hM6⟩ := hM2.push (l := tskL y k j) (nb := G2.next) (hL.frame fun b x hb hg => ⟨Nat.le_trans hM.ext.le hb, ((Ext.refl hE2.wf).alloc _).of hE2.wf hg⟩) (get_alloc_eq hE2.wf.1) (by rw [tsL_len]; omega)
      refine Wk_vh ha6 ?_
      simp (config := { implicitDefEqProofs := false, maxDischargeDepth := 6, maxSteps := 1000000 }) only [go_sem, ↓reduceIte, Nat.reduceLT, Nat.reduceLeDiff, Nat.reduceEqDiff, Nat.reduceAdd, Nat.reduceMul, Nat.reduceSub, Nat.reduceBEq, reduceCtorEq, Int.reduceEq, Int.reduceLT, Int.reduceLE, Int.reduceNeg, Int.reduceToNat, f0, f1, f2, f3, f10, f11, f12, f13, nv, hw2]
      rw [← tsL_succ] at hM6
      refine ⟨n - (k + 1), by omega, k + 1, tv6, _, rfl, by omega, ?_, ?_, ?_, ?_, ?_, ?_, hM6⟩
      · simp (config := { implicitDefEqProofs := false, maxDischargeDepth := 6, maxSteps := 1000000 }) only [go_sem, ↓reduceIte, Nat.reduceLT, Nat.reduceLeDiff, Nat.reduceEqDiff, Nat.reduceAdd, Nat.reduceMul, Nat.reduceSub, Nat.reduceBEq, reduceCtorEq, Int.reduceEq, Int.reduceLT, Int.reduceLE, Int.reduceNeg, Int.reduceToNat, f0, nv]
      · simp (config := { implicitDefEqProofs := false, maxDischargeDepth := 6, maxSteps := 1000000 }) only [go_sem, ↓reduceIte, Nat.reduceLT, Nat.reduceLeDiff, Nat.reduceEqDiff, Nat.reduceAdd, Nat.reduceMul, Nat.reduceSub, Nat.reduceBEq, reduceCtorEq, Int.reduceEq, Int.reduceLT, Int.reduceLE, Int.reduceNeg, Int.reduceToNat, f1, nv]
      · simp (config := { implicitDefEqProofs := false, maxDischargeDepth := 6, maxSteps := 1000000 }) only [go_sem, ↓reduceIte, Nat.reduceLT, Nat.reduceLeDiff, Nat.reduceEqDiff, Nat.reduceAdd, Nat.reduceMul, Nat.reduceSub, Nat.reduceBEq, reduceCtorEq, Int.reduceEq, Int.reduceLT, Int.reduceLE, Int.reduceNeg, Int.reduceToNat, f2]
      · simp (config := { implicitDefEqProofs := false, maxDischargeDepth := 6, maxSteps := 1000000 }) only [go_sem, ↓reduceIte, Nat.reduceLT, Nat.reduceLeDiff, Nat.reduceEqDiff, Nat.reduceAdd, Nat.reduceMul, Nat.reduceSub, Nat.reduceBEq, reduceCtorEq, Int.reduceEq, Int.reduceLT, Int.reduceLE, Int.reduceNeg, Int.reduceToNat, f3]
      · simp (config := { implicitDefEqProofs := false, maxDischargeDepth := 6, maxSteps := 1000000 }) only [go_sem, ↓reduceIte, Nat.reduceLT, Nat.reduceLeDiff, Nat.reduceEqDiff, Nat.reduceAdd, Nat.reduceMul, Nat.reduceSub, Nat.reduceBEq, reduceCtorEq, Int.reduceEq, Int.reduceLT, Int.reduceLE, Int.reduceNeg, Int.reduceToNat, ]
      · simp (config := { implicitDefEqProofs := false, maxDischargeDepth := 6, maxSteps := 1000000 }) only [go_sem, ↓reduceIte, Nat.reduceLT, Nat.reduceLeDiff, Nat.reduceEqDiff, Nat.reduceAdd, Nat.reduceMul, Nat.reduceSub, Nat.reduceBEq, reduceCtorEq, Int.reduceEq, Int.reduceLT, Int.reduceLE, Int.reduceNeg, Int.reduceToNat, nv]
  · have hltZ2 : ¬ (k : Int) < (n : Int) := by omega
    obtain rfl : k = n := by omega
    simp (config := { implicitDefEqProofs := false, maxDischargeDepth := 6, maxSteps := 1000000 }) only [go_sem, ↓reduceIte, Nat.reduceLT, Nat.reduceLeDiff, Nat.reduceEqDiff, Nat.reduceAdd, Nat.reduceMul, Nat.reduceSub, Nat.reduceBEq, reduceCtorEq, Int.reduceEq, Int.reduceLT, Int.reduceLE, Int.reduceNeg, Int.reduceToNat, f0, f1, f2, f3, f10, f11, nv, hltZ2]
    have hpG := hp0.of fun b x hb => hM.ext.of hw0 hb
    rw [hpv] at hpG
    refine CW_mono _ (Run_W hM.ext.wf hM.tasks (by rw [tsL_len]; omega) (room := 1) (most := 65536) hpG) ?_
    intro x H1 hR
    obtain ⟨hE1, _, hR⟩ := hR
    obtain ⟨trv, rgv, ev, qsv, qv, rfl, hA⟩ := hR hOk.ask
    rw [show Int.toNat 65536 = 65536 from rfl] at hA ⊢
    have hdone := hOk.done
    have hreg := hOk.reg
    have hSN : (runM 65536 (S0 (tsL y k t) 1) picks).N = k := by rw [(runM_N 65536 picks).1]; exact tsL_len y k t
    generalize runM 65536 (S0 (tsL y k t) 1) picks = S at *
    have hw1 := hE1.wf
    have hnb1 := hw1.1
    obtain ⟨ra, rc, rfl⟩ := hA.regs.sl
    obtain ⟨ea, ec, rfl⟩ := hA.ends.sl
    obtain ⟨sa, sc, rfl⟩ := hA.queues.sl
    obtain ⟨ta, tc, rfl⟩ := hA.trace.sl
    rw [hSN] at hA
    have hEF := ((Ext.refl hw1).alloc (⟨33, 0, false, [.int .i64 0, .slice none 0 0, .slice none 0 0, .slice none 0 0, .slice none 0 0]⟩ : Blk)).set (b := H1.next) (Nat.le_refl _) (by simp only [next_alloc]; omega) (outB S.trace.length (.slice ta S.trace.length tc) (.slice ra 8 rc) (.slice ea k ec) (.slice sa 4 sc))
    have hAF := hA.of hw1 hEF
    have hnx := hEF.wf.1
    have h8 : ((8 : Nat) : Int) = 8 := rfl
    simp (config := { implicitDefEqProofs := false, maxDischargeDepth := 6, maxSteps := 1000000 }) only [go_sem, ↓reduceIte, Nat.reduceLT, Nat.reduceLeDiff, Nat.reduceEqDiff, Nat.reduceAdd, Nat.reduceMul, Nat.reduceSub, Nat.reduceBEq, reduceCtorEq, Int.reduceEq, Int.reduceLT, Int.reduceLE, Int.reduceNeg, Int.reduceToNat, f0, f1, f2, f3, nv, loads_eq, hnb1, hSN, goInt, h8]
    have hrg := hAF.regs.rd.at_ (i := 0) (by simp)
    have hends := hAF.ends
    rw [hSN] at hends
    simp only [outB, nv] at hends hrg
    clear hAF hnx hA
    clear hEF
    generalize hF : (Heap.set (Heap.alloc H1 ⟨33, 0, false, [.int .i64 0, .slice none 0 0, .slice none 0 0, .slice none 0 0, .slice none 0 0]⟩) H1.next ⟨33, 0, false, [.int .i64 S.trace.length, .slice ta S.trace.length tc, .slice ra 8 rc, .slice ea k ec, .slice sa 4 sc]⟩) = F at *
    have hcell : F.get H1.next = some ⟨33, 0, false, [.int .i64 S.trace.length, .slice ta S.trace.length tc, .slice ra 8 rc, .slice ea k ec, .slice sa 4 sc]⟩ := by rw [← hF]; exact get_set_eq hnb1
    refine Wk_loopF (fun m f G => ∃ i, m = k - i ∧ i ≤ k ∧ f.get 0 = some (nv k) ∧ f.get 1 = some (nv t) ∧ f.get 14 = some (.pointer (some ⟨H1.next, 0, none⟩)) ∧ f.get 16 = some (nv i) ∧ G = F) k ?_ ?_
    · refine ⟨0, by omega, by omega, ?_, ?_, ?_, ?_, rfl⟩
      all_goals simp (config := { implicitDefEqProofs := false, maxDischargeDepth := 6, maxSteps := 1000000 }) only [go_sem, ↓reduceIte, Nat.reduceLT, Nat.reduceLeDiff, Nat.reduceEqDiff, Nat.reduceAdd, Nat.reduceMul, Nat.reduceSub, Nat.reduceBEq, reduceCtorEq, Int.reduceEq, Int.reduceLT, Int.reduceLE, Int.reduceNeg, Int.reduceToNat, f0, f1, nv]
      rfl
    clear f0 f1 f2 f3 f10 f11
    rintro m f G ⟨i, rfl, hi, f0, f1, f14, f16, rfl⟩
    unfold L5_4
    by_cases hlti : i < k
    · have hltZi : (i : Int) < (k : Int) := by omega
      have hi0 : (0 : Int) ≤ (i : Int) := by omega
      have hwi : IntKind.i64.wrap ((i : Int) + 1) = ((i + 1 : Nat) : Int) := IntWalk.i64_in _ (by omega)
      obtain ⟨b, o, c, x, hv, hc, hx, hx0, _⟩ := pair_at hends hlti
      simp only [Value.slice.injEq, true_and] at hv
      obtain ⟨rfl, rfl⟩ := hv
      rw [hdone i hlti] at hx0
      simp only [iv] at hx0
      simp (config := { implicitDefEqProofs := false, maxDischargeDepth := 6, maxSteps := 1000000 }) only [go_sem, ↓reduceIte, Nat.reduceLT, Nat.reduceLeDiff, Nat.reduceEqDiff, Nat.reduceAdd, Nat.reduceMul, Nat.reduceSub, Nat.reduceBEq, reduceCtorEq, Int.reduceEq, Int.reduceLT, Int.reduceLE, Int.reduceNeg, Int.reduceToNat, f0, f1, f14, f16, nv, hltZi, hi0, hcell, hc, hx, hx0, hwi, Nat.add_zero]
      refine ⟨k - (i + 1), by omega, i + 1, rfl, by omega, ?_, ?_, ?_, ?_, rfl⟩
      · simp (config := { implicitDefEqProofs := false, maxDischargeDepth := 6, maxSteps := 1000000 }) only [go_sem, ↓reduceIte, Nat.reduceLT, Nat.reduceLeDiff, Nat.reduceEqDiff, Nat.reduceAdd, Nat.reduceMul, Nat.reduceSub, Nat.reduceBEq, reduceCtorEq, Int.reduceEq, Int.reduceLT, Int.reduceLE, Int.reduceNeg, Int.reduceToNat, f0, nv]
      · simp (config := { implicitDefEqProofs := false, maxDischargeDepth := 6, maxSteps := 1000000 }) only [go_sem, ↓reduceIte, Nat.reduceLT, Nat.reduceLeDiff, Nat.reduceEqDiff, Nat.reduceAdd, Nat.reduceMul, Nat.reduceSub, Nat.reduceBEq, reduceCtorEq, Int.reduceEq, Int.reduceLT, Int.reduceLE, Int.reduceNeg, Int.reduceToNat, f1, nv]
      · simp (config := { implicitDefEqProofs := false, maxDischargeDepth := 6, maxSteps := 1000000 }) only [go_sem, ↓reduceIte, Nat.reduceLT, Nat.reduceLeDiff, Nat.reduceEqDiff, Nat.reduceAdd, Nat.reduceMul, Nat.reduceSub, Nat.reduceBEq, reduceCtorEq, Int.reduceEq, Int.reduceLT, Int.reduceLE, Int.reduceNeg, Int.reduceToNat, f14]
      · simp (config := { implicitDefEqProofs := false, maxDischargeDepth := 6, maxSteps := 1000000 }) only [go_sem, ↓reduceIte, Nat.reduceLT, Nat.reduceLeDiff, Nat.reduceEqDiff, Nat.reduceAdd, Nat.reduceMul, Nat.reduceSub, Nat.reduceBEq, reduceCtorEq, Int.reduceEq, Int.reduceLT, Int.reduceLE, Int.reduceNeg, Int.reduceToNat, nv]
    · have hltZi : ¬ (i : Int) < (k : Int) := by omega
      obtain ⟨b, o, c, x, hv, hc, hx, hx0⟩ := hrg
      simp only [Value.slice.injEq, List.length_map, List.length_range, true_and] at hv
      obtain ⟨rfl, rfl⟩ := hv
      simp only [List.getElem_map, List.getElem_range, iv, Nat.add_zero, hreg] at hx0
      have b1 : t * k ≤ 8 * 7 := Nat.mul_le_mul (by omega) (by omega)
      have b2 : t * k * (k + 1) ≤ 8 * 7 * 8 := Nat.mul_le_mul b1 (by omega)
      have m1 : IntKind.i64.wrap ((t : Int) * (k : Int)) = ((t * k : Nat) : Int) := by rw [← Int.natCast_mul]; exact IntWalk.i64_in _ (by omega)
      have m2 : IntKind.i64.wrap ((k : Int) + 1) = ((k + 1 : Nat) : Int) := IntWalk.i64_in _ (by omega)
      have m3 : IntKind.i64.wrap (((t * k : Nat) : Int) * ((k + 1 : Nat) : Int)) = ((t * k * (k + 1) : Nat) : Int) := by rw [← Int.natCast_mul]; exact IntWalk.i64_in _ (by omega)
      have m4 : IntKind.i64.wrap (((t * k * (k + 1) : Nat) : Int).tdiv 2) = ((t * k * (k + 1) / 2 : Nat) : Int) := by rw [IntWalk.i64_quo _ _ (by omega)]; omega
      simp (config := { implicitDefEqProofs := false, maxDischargeDepth := 6, maxSteps := 1000000 }) only [go_sem, ↓reduceIte, Nat.reduceLT, Nat.reduceLeDiff, Nat.reduceEqDiff, Nat.reduceAdd, Nat.reduceMul, Nat.reduceSub, Nat.reduceBEq, reduceCtorEq, Int.reduceEq, Int.reduceLT, Int.reduceLE, Int.reduceNeg, Int.reduceToNat, f0, f1, f14, f16, nv, hltZi, hcell, hc, hx, hx0, Nat.add_zero, h8, m1, m2, m3, m4]
end Go.Am.T
