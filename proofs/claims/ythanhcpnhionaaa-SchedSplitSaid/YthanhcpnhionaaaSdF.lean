/- The walks of the scheduler's functions: wait. Conditions: those of each theorem. -/
import Derived.Test.YthanhcpnhionaaaSdE
set_option linter.all false
set_option linter.unusedSimpArgs false
set_option linter.unusedVariables false
namespace Go.Am.T
open Go Go.Am Go.Proofs.Ythanhcpnhionaaa Go.Proofs

theorem RepX.ne_rt {ex : Option Role} {H : Heap} {r : Nat} {M : Mem} {S : Sx} (h : RepX ex H r M S) {i : Nat} (hi : i < S.N) : r ≠ M.ta i := by
  intro e
  have h1 := h.ro
  have h2 := h.tko i hi
  rw [← e, h1] at h2; cases h2

def waitS2 (S : Sx) (i : Nat) (a : Act) : Sx := { setTk S i { S.tk i with wait := 0 } with locks := upd S.locks a.b.toNat i }
def waitS0 (S : Sx) (i : Nat) (a : Act) : Sx := { setTk S i { S.tk i with wait := 1 } with locks := upd S.locks a.b.toNat (-1), conds := upd S.conds a.a.toNat (S.conds a.a.toNat ++ [i]) }

theorem wait2_W {H : Heap} {r : Nat} {M : Mem} {S : Sx} (h : Rep H r M S) {i : Nat} (hi : i < S.N) {a : Act} (hb0 : 0 ≤ a.b) (hb4 : a.b < 4) (hw : (S.tk i).wait ≠ 0) :
   CW Try.prog 48 #[.pointer (some ⟨r, 0, none⟩), nv i, .pointer (some ⟨M.ta i, 0, none⟩), .agg a.cells.toArray] H fun x H' => x = .ret (.bool true) ∧ ∃ M', Rep H' r M' (waitS2 S i a) ∧ Frm H M H' M' := by
  refine CW_k (n := 48) if48 rfl ?_
  unfold C48
  have hA : a.b.toNat < 4 := by omega
  have htk := h.task i hi
  have htb := h.tkb i hi
  have hrb := h.rb
  have hnb := h.wf.1
  have hrl := h.lt r (by rw [h.ro]; simp)
  have htl := h.lt (M.ta i) (by rw [h.tko i hi]; simp)
  have hne := h.ne_rt hi
  have hne' := hne.symm
  simp (config := { implicitDefEqProofs := false, maxDischargeDepth := 6, maxSteps := 1000000 }) only [go_sem, ↓reduceIte, Nat.reduceLT, Nat.reduceLeDiff, Nat.reduceEqDiff, Nat.reduceAdd, Nat.reduceMul, Nat.reduceSub, Nat.reduceBEq, reduceCtorEq, Int.reduceEq, Int.reduceLT, Int.reduceLE, Int.reduceNeg, Int.reduceToNat, h.run, htk, htb, hrb, hnb, hrl, htl, hb0, hb4, hA, hw, hne, hne', nv]
  have h1 := h.ext ((Ext.refl h.wf).alloc (⟨47, 0, false, a.cells⟩ : Blk))
  have h2 := (h1.setTask hi (t := { S.tk i with wait := 0 }) rfl).ext (Ext.bump (Ext.refl (h1.setTask hi (t := { S.tk i with wait := 0 }) rfl).wf) 9)
  have h3 := h2.setRun (M' := M) (S' := waitS2 S i a) rfl rfl rfl rfl rfl rfl (fun j hj => h2.cond j hj (by simp)) (fun j hj => h2.queue j hj (by simp)) (h2.trace (by simp))
  exact ⟨M, h3, ((Frm.ext ((Ext.refl h.wf).alloc _)).trans ((Frm.set (b := M.ta i) (by rw [h.tko i hi]; simp) _ rfl rfl rfl).trans (Frm.ext (Ext.bump (Ext.refl (h1.setTask hi (t := { S.tk i with wait := 0 }) rfl).wf) 9)))).trans (Frm.set (by rw [h1.ro]; simp) _ rfl rfl rfl)⟩


theorem wait0_W {H : Heap} {r : Nat} {M : Mem} {S : Sx} (h : Rep H r M S) {i : Nat} (hi : i < S.N) {a : Act} (hb0 : 0 ≤ a.b) (hb4 : a.b < 4) (ha0 : 0 ≤ a.a) (ha4 : a.a < 4) (hw : (S.tk i).wait = 0) (hbd : (S.conds a.a.toNat).length ≤ 1000000) :
   CW Try.prog 48 #[.pointer (some ⟨r, 0, none⟩), nv i, .pointer (some ⟨M.ta i, 0, none⟩), .agg a.cells.toArray] H fun x H' =>
     if S.locks a.b.toNat = i then x = .ret (.bool false) ∧ ∃ M', Rep H' r M' (waitS0 S i a) ∧ Frm H M H' M'
     else x = .pan (boom (-1)) ∧ Ext H H' := by
  refine CW_k (n := 48) if48 rfl ?_
  unfold C48
  have hA : a.b.toNat < 4 := by omega
  have hA2 : a.a.toNat < 4 := by omega
  have htk := h.task i hi
  have htb := h.tkb i hi
  have hrb := h.rb
  have hnb := h.wf.1
  have hrl := h.lt r (by rw [h.ro]; simp)
  have htl := h.lt (M.ta i) (by rw [h.tko i hi]; simp)
  have hne := h.ne_rt hi
  have hne' := hne.symm
  simp (config := { implicitDefEqProofs := false, maxDischargeDepth := 6, maxSteps := 1000000 }) only [go_sem, ↓reduceIte, Nat.reduceLT, Nat.reduceLeDiff, Nat.reduceEqDiff, Nat.reduceAdd, Nat.reduceMul, Nat.reduceSub, Nat.reduceBEq, reduceCtorEq, Int.reduceEq, Int.reduceLT, Int.reduceLE, Int.reduceNeg, Int.reduceToNat, h.run, htk, htb, hrb, hnb, hrl, htl, hb0, hb4, hA, hw, hne, hne', nv]
  have hE := (Ext.refl h.wf).alloc (⟨47, 0, false, a.cells⟩ : Blk)
  refine CW_mono _ (free_W hE.wf hrb (hE.of h.wf h.run) hb0 hb4) ?_
  by_cases hl : S.locks a.b.toNat = i
  · have hl' : (Go.Am.T.rv M S).locks a.b.toNat = i := hl
    rintro x H' hx
    rw [if_pos hl'] at hx
    obtain ⟨rfl, rfl⟩ := hx
    obtain ⟨ca, cc, hcv⟩ := (h.cond _ hA2 (by simp)).sl
    simp (config := { implicitDefEqProofs := false, maxDischargeDepth := 6, maxSteps := 1000000 }) only [go_sem, ↓reduceIte, Nat.reduceLT, Nat.reduceLeDiff, Nat.reduceEqDiff, Nat.reduceAdd, Nat.reduceMul, Nat.reduceSub, Nat.reduceBEq, reduceCtorEq, Int.reduceEq, Int.reduceLT, Int.reduceLE, Int.reduceNeg, Int.reduceToNat, h.run, htk, htb, hrb, hnb, hrl, htl, hb0, hb4, ha0, ha4, hA, hA2, hw, hne, hne', nv, hcv]
    refine Wk_w_c rfl rfl ?_
    simp (config := { implicitDefEqProofs := false, maxDischargeDepth := 6, maxSteps := 1000000 }) only [go_sem, ↓reduceIte, Nat.reduceLT, Nat.reduceLeDiff, Nat.reduceEqDiff, Nat.reduceAdd, Nat.reduceMul, Nat.reduceSub, Nat.reduceBEq, reduceCtorEq, Int.reduceEq, Int.reduceLT, Int.reduceLE, Int.reduceNeg, Int.reduceToNat, h.run, htk, htb, hrb, hnb, hrl, htl, hb0, hb4, ha0, ha4, hA, hA2, hw, hne, hne', nv, hcv]
    have h1 := h.ext hE
    have h2 := h1.setRun (M' := M) (S' := { S with locks := upd S.locks a.b.toNat (-1) }) rfl rfl rfl rfl rfl rfl (fun j hj => h1.cond j hj (by simp)) (fun j hj => h1.queue j hj (by simp)) (h1.trace (by simp))
    have h3 := h2.setTask hi (t := { S.tk i with wait := 1 }) rfl
    have hF3 := ((Frm.ext (M := M) hE).trans (Frm.set (M' := M) (b := r) (by rw [h1.ro]; simp) (runB (Go.Am.T.rv M { S with locks := upd S.locks a.b.toNat (-1) })) rfl rfl rfl)).trans (Frm.set (M' := M) (b := M.ta i) (by rw [h.tko i hi]; simp) (taskB (tkV (M.av i) { S.tk i with wait := 1 })) rfl rfl rfl)
    have h5 := h3.ext ((Ext.bump (Ext.refl h3.wf) 18).set (b := H.next + 1 + 11) (by simp only [next_set, next_alloc]; omega) (by simp only [next_bump, next_set, next_alloc]; omega) ⟨3, 0, false, [.int .i64 (i : Int)]⟩)
    have hOc := h5.cond _ hA2 (by simp)
    rw [hcv] at hOc
    obtain ⟨H6, ha6, h6, hO6, hF6, hn6, hk6⟩ := h5.append (.cond a.a.toNat) (by simp) (by simp) (by simp) (bytes := 8) (nb := H.next + 1 + 11) (x := ⟨3, 0, false, [nv i]⟩) (vs := [nv i]) hOc (get_set_eq (by omega)) rfl rfl (by omega) rfl (by omega) (by omega)
    refine cK_vh ha6 ?_
    have hr6 := h6.run
    have hcell := hk6 H.next ⟨47, 0, false, a.cells⟩ (by simp (config := { implicitDefEqProofs := false, maxDischargeDepth := 6, maxSteps := 1000000 }) only [go_sem, ↓reduceIte, Nat.reduceLT, Nat.reduceLeDiff, Nat.reduceEqDiff, Nat.reduceAdd, Nat.reduceMul, Nat.reduceSub, Nat.reduceBEq, reduceCtorEq, Int.reduceEq, Int.reduceLT, Int.reduceLE, Int.reduceNeg, Int.reduceToNat, hnb, hrl, htl, hne, hne']) (by
      have := h.lt H.next; by_cases e : M.own H.next = none
      · exact e
      · exact absurd (this e) (by omega))
    have hn6' := h6.wf.1
    simp (config := { implicitDefEqProofs := false, maxDischargeDepth := 6, maxSteps := 1000000 }) only [go_sem, ↓reduceIte, Nat.reduceLT, Nat.reduceLeDiff, Nat.reduceEqDiff, Nat.reduceAdd, Nat.reduceMul, Nat.reduceSub, Nat.reduceBEq, reduceCtorEq, Int.reduceEq, Int.reduceLT, Int.reduceLE, Int.reduceNeg, Int.reduceToNat, hr6, hcell, hn6']
    refine cK_some ?_ ?_
    · simp (config := { implicitDefEqProofs := false, maxDischargeDepth := 6, maxSteps := 1000000 }) only [go_sem, ↓reduceIte, Nat.reduceLT, Nat.reduceLeDiff, Nat.reduceEqDiff, Nat.reduceAdd, Nat.reduceMul, Nat.reduceSub, Nat.reduceBEq, reduceCtorEq, Int.reduceEq, Int.reduceLT, Int.reduceLE, Int.reduceNeg, Int.reduceToNat, reK, hcell]
    · simp (config := { implicitDefEqProofs := false, maxDischargeDepth := 6, maxSteps := 1000000 }) only [go_sem, ↓reduceIte, Nat.reduceLT, Nat.reduceLeDiff, Nat.reduceEqDiff, Nat.reduceAdd, Nat.reduceMul, Nat.reduceSub, Nat.reduceBEq, reduceCtorEq, Int.reduceEq, Int.reduceLT, Int.reduceLE, Int.reduceNeg, Int.reduceToNat, hr6, hcell, hn6', ha0, ha4, hA2, hrb]
      refine Wk_w_c rfl rfl ?_
      simp (config := { implicitDefEqProofs := false, maxDischargeDepth := 6, maxSteps := 1000000 }) only [go_sem, ↓reduceIte, Nat.reduceLT, Nat.reduceLeDiff, Nat.reduceEqDiff, Nat.reduceAdd, Nat.reduceMul, Nat.reduceSub, Nat.reduceBEq, reduceCtorEq, Int.reduceEq, Int.reduceLT, Int.reduceLE, Int.reduceNeg, Int.reduceToNat, hr6, hcell, hn6', ha0, ha4, hA2, hrb]
      rw [if_pos hl]
      have h7 := h6.setRun (M' := { M with own := upd M.own (H.next + 1 + 18) (some (.cond a.a.toNat)), cv := upd M.cv a.a.toNat (.slice (some ⟨H.next + 1 + 18, 0, none⟩) ((S.conds a.a.toNat).length + 1) openCap) }) (S' := waitS0 S i a) (by simp only [next_bump, next_set, next_alloc]) rfl rfl rfl rfl rfl ?_ (fun j hj => h6.queue j hj (by simp)) (h6.trace (by simp))
      · exact ⟨_, h7, ((hF3.trans (Frm.ext (M := M) ((Ext.bump (Ext.refl h3.wf) 18).set (b := H.next + 1 + 11) (by simp only [next_set, next_alloc]; omega) (by simp only [next_bump, next_set, next_alloc]; omega) ⟨3, 0, false, [.int .i64 (i : Int)]⟩))).trans hF6).trans (Frm.set (by rw [h6.ro]; simp) _ (by simp only [next_bump, next_set, next_alloc]) rfl rfl)⟩
      · intro j hj
        by_cases e : j = a.a.toNat
        · subst e
          simp only [waitS0, upd_same, List.length_append, List.map_append]
          simp only [next_bump, next_set, next_alloc] at hO6 ⊢
          exact hO6
        · simp only [waitS0, upd_ne e]
          exact h6.cond j hj (by simp; exact fun x => e x.symm)
  · have hl' : ¬ (Go.Am.T.rv M S).locks a.b.toNat = i := hl
    rintro x H' hx
    rw [if_neg hl'] at hx
    obtain ⟨rfl, rfl⟩ := hx
    simp (config := { implicitDefEqProofs := false, maxDischargeDepth := 6, maxSteps := 1000000 }) only [go_sem, ↓reduceIte, Nat.reduceLT, Nat.reduceLeDiff, Nat.reduceEqDiff, Nat.reduceAdd, Nat.reduceMul, Nat.reduceSub, Nat.reduceBEq, reduceCtorEq, Int.reduceEq, Int.reduceLT, Int.reduceLE, Int.reduceNeg, Int.reduceToNat, hl]
    exact hE
end Go.Am.T
