/- The walks of the scheduler's functions: who is ready, who is next. Conditions: those of each theorem. -/
import Derived.Test.YthanhcpnhionaaaSdB
import Derived.IntWalk
set_option linter.all false
set_option linter.unusedSimpArgs false
set_option linter.unusedVariables false
namespace Go.Am.T
open Go Go.Am Go.Proofs.Ythanhcpnhionaaa Go.Proofs

def howS (S : Sx) (i : Nat) : Int := howP S.locks S.room (fun j => (S.queues j).length) (tkV .nilIface (S.tk i)) (S.tk i).acts
def rdyTo (S : Sx) (k : Nat) : List Nat := (List.range k).filter fun i => howS S i = 3
def rdy (S : Sx) : List Nat := rdyTo S S.N
def VS (S : Sx) : Prop := ∀ i, i < S.N → ∀ k (h : k < (S.tk i).acts.length), Valid (S.tk i).acts.length (S.tk i).acts[k]
theorem rdyTo_succ (S : Sx) (k : Nat) : rdyTo S (k + 1) = rdyTo S k ++ if howS S k = 3 then [k] else [] := by
  unfold rdyTo
  rw [List.range_succ, List.filter_append]
  by_cases h : howS S k = 3 <;> simp [List.filter_cons, h]
theorem rdyTo_len (S : Sx) (k : Nat) : (rdyTo S k).length ≤ k := by
  have := List.length_filter_le (fun i => decide (howS S i = 3)) (List.range k)
  simpa [rdyTo] using this

theorem how_R {H : Heap} {r : Nat} {M : Mem} {S : Sx} (h : Rep H r M S) (hv : VS S) {i : Nat} (hi : i < S.N) :
   CW Try.prog 31 #[.pointer (some ⟨r, 0, none⟩), .pointer (some ⟨M.ta i, 0, none⟩)] H fun x H' => x = .ret (.int .i64 (howS S i)) ∧ Ext H H' := by
  have hq : ∀ j, ∃ a c, j < 4 → M.qv j = .slice a (S.queues j).length c := by
    intro j
    by_cases hj : j < 4
    · obtain ⟨a, c, e⟩ := (h.queue j hj (by simp)).sl; exact ⟨a, c, fun _ => e⟩
    · exact ⟨none, 0, fun h => absurd h hj⟩
  have := how_W (R := rv M S) (T := tkV (M.av i) (S.tk i)) h.wf h.run (h.task i hi) (h.actsAt hi) (i := (S.tk i).at_) rfl (fun hk => hv i hi _ hk)
    (ql := fun j => (S.queues j).length) (qa := fun j => Classical.choose (hq j)) (qc := fun j => Classical.choose (Classical.choose_spec (hq j))) (fun j hj => Classical.choose_spec (Classical.choose_spec (hq j)) hj)
  exact this

theorem ready_W {H : Heap} {r : Nat} {M : Mem} {S : Sx} (h : Rep H r M S) (hv : VS S) (hN : S.N ≤ 65536) :
   CW Try.prog 33 #[.pointer (some ⟨r, 0, none⟩)] H fun x H' => ∃ v, x = .ret v ∧ Ext H H' ∧ OwnL (fun b => H.next ≤ b) H' 1 3 v (rdy S).length ((rdy S).map nv) := by
  refine CW_k (n := 26) if33 rfl ?_
  unfold C33
  obtain ⟨ta, tc, htv, harr⟩ := h.arr
  simp (config := { implicitDefEqProofs := false, maxDischargeDepth := 6, maxSteps := 1000000 }) only [go_sem, ↓reduceIte, Nat.reduceLT, Nat.reduceLeDiff, Nat.reduceEqDiff, Nat.reduceAdd, Nat.reduceMul, Nat.reduceSub, Nat.reduceBEq, reduceCtorEq, Int.reduceEq, Int.reduceLT, Int.reduceLE, Int.reduceNeg, Int.reduceToNat, h.run, htv]
  refine Wk_loopF (fun m f H1 => ∃ k v, m = S.N - k ∧ k ≤ S.N ∧ f.get 0 = some (.pointer (some ⟨r, 0, none⟩)) ∧ f.get 9 = some (.slice ta S.N tc) ∧ f.get 10 = some (nv S.N) ∧ f.get 11 = some (nv k) ∧ f.get 3 = some v ∧
    Ext H H1 ∧ OwnL (fun b => H.next ≤ b) H1 1 3 v (rdyTo S k).length ((rdyTo S k).map nv)) S.N ?_ ?_
  · refine ⟨0, .slice none 0 0, by omega, by omega, ?_, ?_, ?_, ?_, ?_, Ext.refl h.wf, .inl ⟨rfl, rfl, rfl⟩⟩
    all_goals simp (config := { implicitDefEqProofs := false, maxDischargeDepth := 6, maxSteps := 1000000 }) only [go_sem, ↓reduceIte, Nat.reduceLT, Nat.reduceLeDiff, Nat.reduceEqDiff, Nat.reduceAdd, Nat.reduceMul, Nat.reduceSub, Nat.reduceBEq, reduceCtorEq, Int.reduceEq, Int.reduceLT, Int.reduceLE, Int.reduceNeg, Int.reduceToNat, goInt, nv]
    rfl
  · rintro m f H1 ⟨k, v, rfl, hk, h0, h9, h10, h11, h3, hE, hO⟩
    have h1 := h.ext hE
    unfold L33_1
    by_cases hlt : k < S.N
    · have hltZ : (k : Int) < (S.N : Int) := by omega
      have hk0 : (0 : Int) ≤ (k : Int) := by omega
      obtain ⟨hc, b, o, x, rfl, hbo, hx, hxs⟩ := harr (by omega)
      have hx1 := hE.of h.wf hx
      have hxk := hxs k hlt
      simp (config := { implicitDefEqProofs := false, maxDischargeDepth := 6, maxSteps := 1000000 }) only [go_sem, ↓reduceIte, Nat.reduceLT, Nat.reduceLeDiff, Nat.reduceEqDiff, Nat.reduceAdd, Nat.reduceMul, Nat.reduceSub, Nat.reduceBEq, reduceCtorEq, Int.reduceEq, Int.reduceLT, Int.reduceLE, Int.reduceNeg, Int.reduceToNat, h0, h9, h10, h11, h3, nv, hltZ, hk0, hc, hx1, hxk]
      refine CW_mono _ (how_R h1 hv hlt) ?_
      rintro _ H2 ⟨rfl, hE2⟩
      have hO2 : OwnL (fun b => H.next ≤ b) H2 1 3 v (rdyTo S k).length ((rdyTo S k).map nv) := hO.frame fun b x hb hg => ⟨hb, hE2.of hE.wf hg⟩
      have hw : IntKind.i64.wrap ((k : Int) + 1) = ((k + 1 : Nat) : Int) := by
        exact IntWalk.i64_in _ (by omega)
      by_cases hh : howS S k = 3
      · obtain ⟨a, c, rfl⟩ := hO2.sl
        simp (config := { implicitDefEqProofs := false, maxDischargeDepth := 6, maxSteps := 1000000 }) only [go_sem, ↓reduceIte, Nat.reduceLT, Nat.reduceLeDiff, Nat.reduceEqDiff, Nat.reduceAdd, Nat.reduceMul, Nat.reduceSub, Nat.reduceBEq, reduceCtorEq, Int.reduceEq, Int.reduceLT, Int.reduceLE, Int.reduceNeg, Int.reduceToNat, h0, h9, h10, h11, h3, nv, hh]
        have hE3 := hE2.alloc (⟨3, 0, false, [.int .i64 (k : Int)]⟩ : Blk)
        have hO3 : OwnL (fun b => H.next ≤ b) (H2.alloc ⟨3, 0, false, [.int .i64 (k : Int)]⟩) 1 3 (.slice a (rdyTo S k).length c) (rdyTo S k).length ((rdyTo S k).map nv) := hO2.frame fun b x hb hg => ⟨hb, (Ext.alloc (Ext.refl hE2.wf) _).of hE2.wf hg⟩
        have hkl := rdyTo_len S k
        refine Wk_vh (appS_own hO3 rfl (get_alloc_eq hE2.wf.1) rfl rfl (by omega) rfl (by omega) (by omega)) ?_
        simp (config := { implicitDefEqProofs := false, maxDischargeDepth := 6, maxSteps := 1000000 }) only [go_sem, ↓reduceIte, Nat.reduceLT, Nat.reduceLeDiff, Nat.reduceEqDiff, Nat.reduceAdd, Nat.reduceMul, Nat.reduceSub, Nat.reduceBEq, reduceCtorEq, Int.reduceEq, Int.reduceLT, Int.reduceLE, Int.reduceNeg, Int.reduceToNat, h0, h9, h10, h11, h3, nv, hh, hw]
        refine ⟨S.N - (k + 1), by omega, k + 1, .slice (some ⟨H2.next + 1, 0, none⟩) ((rdyTo S k).length + 1) openCap, rfl, by omega, ?_, ?_, ?_, ?_, ?_, Ext.app (hE.trans hE3) hO3 _, ?_⟩
        all_goals try simp (config := { implicitDefEqProofs := false, maxDischargeDepth := 6, maxSteps := 1000000 }) only [go_sem, ↓reduceIte, Nat.reduceLT, Nat.reduceLeDiff, Nat.reduceEqDiff, Nat.reduceAdd, Nat.reduceMul, Nat.reduceSub, Nat.reduceBEq, reduceCtorEq, Int.reduceEq, Int.reduceLT, Int.reduceLE, Int.reduceNeg, Int.reduceToNat, h0, h9, h10, h11, h3, nv, hh]
        have := hO3.appended (p' := fun b => H.next ≤ b) (vs := [nv k]) hE3.wf (Nat.le_succ_of_le (Nat.le_trans hE.le hE2.le)) rfl
        rw [rdyTo_succ, if_pos hh, List.map_append, List.length_append]
        exact this
      · simp (config := { implicitDefEqProofs := false, maxDischargeDepth := 6, maxSteps := 1000000 }) only [go_sem, ↓reduceIte, Nat.reduceLT, Nat.reduceLeDiff, Nat.reduceEqDiff, Nat.reduceAdd, Nat.reduceMul, Nat.reduceSub, Nat.reduceBEq, reduceCtorEq, Int.reduceEq, Int.reduceLT, Int.reduceLE, Int.reduceNeg, Int.reduceToNat, h0, h9, h10, h11, h3, nv, hh, hw]
        refine ⟨S.N - (k + 1), by omega, k + 1, v, rfl, by omega, ?_, ?_, ?_, ?_, ?_, hE.trans hE2, ?_⟩
        all_goals try simp (config := { implicitDefEqProofs := false, maxDischargeDepth := 6, maxSteps := 1000000 }) only [go_sem, ↓reduceIte, Nat.reduceLT, Nat.reduceLeDiff, Nat.reduceEqDiff, Nat.reduceAdd, Nat.reduceMul, Nat.reduceSub, Nat.reduceBEq, reduceCtorEq, Int.reduceEq, Int.reduceLT, Int.reduceLE, Int.reduceNeg, Int.reduceToNat, h0, h9, h10, h11, h3, nv, hh]
        rw [rdyTo_succ, if_neg hh, List.append_nil]; exact hO2
    · have hltZ : ¬ (k : Int) < (S.N : Int) := by omega
      simp (config := { implicitDefEqProofs := false, maxDischargeDepth := 6, maxSteps := 1000000 }) only [go_sem, ↓reduceIte, Nat.reduceLT, Nat.reduceLeDiff, Nat.reduceEqDiff, Nat.reduceAdd, Nat.reduceMul, Nat.reduceSub, Nat.reduceBEq, reduceCtorEq, Int.reduceEq, Int.reduceLT, Int.reduceLE, Int.reduceNeg, Int.reduceToNat, h0, h9, h10, h11, h3, nv, hltZ]
      have e : k = S.N := by omega
      subst e
      exact ⟨v, rfl, hE, hO⟩
end Go.Am.T
