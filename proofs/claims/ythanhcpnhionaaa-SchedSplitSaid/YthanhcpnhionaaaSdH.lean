/- The walks of the scheduler's functions: step. Conditions: those of each theorem. -/
import Derived.Test.YthanhcpnhionaaaSdG
import Derived.Test.YthanhcpnhionaaaAmR
set_option linter.all false
set_option linter.unusedSimpArgs false
set_option linter.unusedVariables false
namespace Go.Am.T
open Go Go.Am Go.Proofs.Ythanhcpnhionaaa Go.Proofs

/- what holds of a run -/
structure OkS (S : Sx) : Prop where
  vs : VS S
  ci : CI S
  len : ∀ i, i < S.N → (S.tk i).acts.length ≤ 65536
  cb : ∀ j, (S.conds j).length ≤ 1000000
  qb : ∀ j, (S.queues j).length ≤ 1000000

theorem do_W {H : Heap} {r : Nat} {M : Mem} {S : Sx} (h : Rep H r M S) (ok : OkS S) {i : Nat} (hi : i < S.N) (hat : (S.tk i).at_ < (S.tk i).acts.length)
    (hq : (S.tk i).acts[(S.tk i).at_].k = 7 → S.queues (S.tk i).acts[(S.tk i).at_].a.toNat ≠ []) :
   CW Try.prog 46 #[.pointer (some ⟨r, 0, none⟩), nv i, .pointer (some ⟨M.ta i, 0, none⟩)] H (DoPost H r M S (doA S i (S.tk i).acts[(S.tk i).at_])) := by
  have hV := ok.vs i hi _ hat
  have hl := ok.len i hi
  have k1 := hV.k1
  have k2 := hV.k2
  by_cases e1 : (S.tk i).acts[(S.tk i).at_].k = 1
  · exact do_1 h hi hat hl hV e1
  by_cases e2 : (S.tk i).acts[(S.tk i).at_].k = 2
  · exact do_2 h hi hat hl hV e2
  by_cases e3 : (S.tk i).acts[(S.tk i).at_].k = 3
  · exact do_3 h hi hat hl hV e3 ok.cb
  by_cases e4 : (S.tk i).acts[(S.tk i).at_].k = 4
  · exact do_4 h hi hat hl hV e4 ok.ci ok.cb
  by_cases e5 : (S.tk i).acts[(S.tk i).at_].k = 5
  · exact do_5 h hi hat hl hV e5 ok.ci ok.cb
  by_cases e6 : (S.tk i).acts[(S.tk i).at_].k = 6
  · exact do_6 h hi hat hl hV e6 ok.qb
  by_cases e7 : (S.tk i).acts[(S.tk i).at_].k = 7
  · exact do_7 h hi hat hl hV e7 (hq e7)
  by_cases e8 : (S.tk i).acts[(S.tk i).at_].k = 8
  · exact do_8 h hi hat hl hV e8
  by_cases e9 : (S.tk i).acts[(S.tk i).at_].k = 9
  · exact do_9 h hi hat hl hV e9
  by_cases e10 : (S.tk i).acts[(S.tk i).at_].k = 10
  · exact do_10 h hi hat hl hV e10
  by_cases e11 : (S.tk i).acts[(S.tk i).at_].k = 11
  · exact do_11 h hi hat hl hV e11
  by_cases e12 : (S.tk i).acts[(S.tk i).at_].k = 12
  · exact do_12 h hi hat hl hV e12
  · exact do_13 h hi hat hl hV (by omega)

@[go_sem] theorem eq_20_n : binA Try.prog .eql 20 .nilIface .nilIface = some (.bool true) := by kernel_rfl
@[go_sem] theorem eq_20_i {v : Value} : binA Try.prog .eql 20 (.iface 95 v) .nilIface = some (.bool false) := by kernel_rfl
@[go_sem] theorem ta_95 {v : Value} : typeAssertA Try.prog (.iface 95 v) 95 true = some (.tuple #[v, .bool true]) := by kernel_rfl
attribute [go_sem] recV boom

def L44 : List IOp := [.o 2 (.assign (.tmp 5))]
theorem rf44 : rfn Try.prog 44 = some ⟨21, 5, L44, (match C44 with | .seq _ b => b | _ => .bad)⟩ := by kernel_rfl

def PanS (S : Sx) (d : Sx × Option Int) : Prop := ∀ n, d.2 = some n → d.1 = S
theorem PanS.ite {S : Sx} {c : Prop} [Decidable c] {x y : Sx × Option Int} (hx : PanS S x) (hy : PanS S y) : PanS S (if c then x else y) := by split <;> assumption
theorem PanS.ok {S S1 : Sx} : PanS S (S1, none) := fun n h => by cases h
theorem PanS.pan {S : Sx} {n : Int} : PanS S (S, some n) := fun _ _ => rfl
theorem doA_pan' {S : Sx} {i : Nat} {a : Act} : PanS S (doA S i a) := by
  unfold doA
  repeat' (first | exact PanS.ok | exact PanS.pan | refine PanS.ite ?_ ?_)
theorem doA_pan {S S1 : Sx} {i : Nat} {a : Act} {n : Int} (h : doA S i a = (S1, some n)) : S1 = S := by
  have := doA_pan' (S := S) (i := i) (a := a) n (by rw [h])
  rw [h] at this; exact this

/- what a panic makes of a task -/
def caughtM (S : Sx) (i : Nat) (n : Int) : Sx :=
  if (S.tk i).guard < 0 then setTk S i { S.tk i with died := true, n := n }
  else { setTk S i { S.tk i with at_ := (S.tk i).guard.toNat, guard := -1, wait := 0 } with regs := upd S.regs 7 n }
def begS (S : Sx) (i : Nat) : Sx := { S with trace := S.trace ++ [(i, (S.tk i).at_)], last := i }
def stepM (S : Sx) (i : Nat) : Sx :=
  match (S.tk i).acts[(S.tk i).at_]? with
  | none => S
  | some a =>
    match doA (begS S i) i a with
    | (S1, none) => S1
    | (S1, some n) => caughtM S1 i n

theorem step_W {H : Heap} {r : Nat} {M : Mem} {S : Sx} (h : Rep H r M S) (ok : OkS S) {i : Nat} (hi : i < S.N) (hat : (S.tk i).at_ < (S.tk i).acts.length) (htl : S.trace.length ≤ 1000000)
    (hq : (S.tk i).acts[(S.tk i).at_].k = 7 → S.queues (S.tk i).acts[(S.tk i).at_].a.toNat ≠ []) :
   CW Try.prog 40 #[.pointer (some ⟨r, 0, none⟩), nv i] H fun x H' => x = .ret (.tuple #[]) ∧ ∃ M', Rep H' r M' (stepM S i) ∧ Frm H M H' M' := by
  refine CW_d (n := 36) if40 rf44 rfl ?_
  unfold C40
  obtain ⟨b, o, c, x, htv, hc, hx, hxi⟩ := h.ptr hi
  have htk := h.task i hi
  have htb := h.tkb i hi
  have hrb := h.rb
  have hnb := h.wf.1
  have hrl := h.lt r (by rw [h.ro]; simp)
  have htlt := h.lt (M.ta i) (by rw [h.tko i hi]; simp)
  have hbl := h.wf.lt hx
  have hne := h.ne_rt hi
  have hne' := hne.symm
  have hiZ : (i : Int) < (S.N : Int) := by omega
  have hi0 : (0 : Int) ≤ (i : Int) := by omega
  obtain ⟨ra, rc, htr⟩ := (h.trace (by simp)).sl
  simp (config := { implicitDefEqProofs := false, maxDischargeDepth := 6, maxSteps := 1000000 }) only [go_sem, ↓reduceIte, Nat.reduceLT, Nat.reduceLeDiff, Nat.reduceEqDiff, Nat.reduceAdd, Nat.reduceMul, Nat.reduceSub, Nat.reduceBEq, reduceCtorEq, Int.reduceEq, Int.reduceLT, Int.reduceLE, Int.reduceNeg, Int.reduceToNat, h.run, nv, htv, hc, hx, hxi, htk, htb, hrb, hnb, hrl, htlt, hbl, hne, hne', hiZ, hi0, htr]
  refine Wk_w_c rfl rfl ?_
  simp (config := { implicitDefEqProofs := false, maxDischargeDepth := 6, maxSteps := 1000000 }) only [go_sem, ↓reduceIte, Nat.reduceLT, Nat.reduceLeDiff, Nat.reduceEqDiff, Nat.reduceAdd, Nat.reduceMul, Nat.reduceSub, Nat.reduceBEq, reduceCtorEq, Int.reduceEq, Int.reduceLT, Int.reduceLE, Int.reduceNeg, Int.reduceToNat, h.run, nv, htv, hc, hx, hxi, htk, htb, hrb, hnb, hrl, htlt, hbl, hne, hne', hiZ, hi0, htr]
  have hE0 := ((((Ext.refl h.wf).alloc (⟨71, 0, false, [.pointer (some ⟨r, 0, none⟩)]⟩ : Blk)).alloc (⟨77, 0, false, [.pointer none]⟩ : Blk)).set (b := H.next + 1) (by omega) (by simp only [next_alloc]; omega) (⟨77, 0, false, [.pointer (some ⟨M.ta i, 0, none⟩)]⟩ : Blk))
  have hE := ((hE0.bump 17).set (b := H.next + 1 + 1 + 11) (by omega) (by simp only [next_bump, next_set, next_alloc]; omega) (⟨39, 0, false, [nv i, nv (S.tk i).at_]⟩ : Blk))
  have h5 := h.ext hE
  have hOt := h5.trace (by simp)
  rw [htr] at hOt
  obtain ⟨H6, ha6, h6, hO6, hF6, hn6, hk6⟩ := h5.append .trace (by simp) (by simp) (by simp) (bytes := 16) (nb := H.next + 1 + 1 + 11) (x := ⟨39, 0, false, [nv i, nv (S.tk i).at_]⟩) (vs := [nv i, nv (S.tk i).at_]) hOt (get_set_eq (by omega)) rfl rfl (by omega) rfl (by omega) (by omega)
  simp only [next_bump, next_set, next_alloc] at ha6 h6 hO6 hF6 hn6
  refine cK_vh ha6 ?_
  have hr6 := h6.run
  have hon0 : M.own H.next = none := by
    by_cases e : M.own H.next = none
    · exact e
    · exact absurd (h.lt _ e) (by omega)
  have hon1 : M.own (H.next + 1) = none := by
    by_cases e : M.own (H.next + 1) = none
    · exact e
    · exact absurd (h.lt _ e) (by omega)
  have hc0 := hk6 H.next ⟨71, 0, false, [.pointer (some ⟨r, 0, none⟩)]⟩ (by simp (config := { implicitDefEqProofs := false, maxDischargeDepth := 6, maxSteps := 1000000 }) only [go_sem, ↓reduceIte, Nat.reduceLT, Nat.reduceLeDiff, Nat.reduceEqDiff, Nat.reduceAdd, Nat.reduceMul, Nat.reduceSub, Nat.reduceBEq, reduceCtorEq, Int.reduceEq, Int.reduceLT, Int.reduceLE, Int.reduceNeg, Int.reduceToNat, hnb]) hon0
  have hc1 := hk6 (H.next + 1) ⟨77, 0, false, [.pointer (some ⟨M.ta i, 0, none⟩)]⟩ (by simp (config := { implicitDefEqProofs := false, maxDischargeDepth := 6, maxSteps := 1000000 }) only [go_sem, ↓reduceIte, Nat.reduceLT, Nat.reduceLeDiff, Nat.reduceEqDiff, Nat.reduceAdd, Nat.reduceMul, Nat.reduceSub, Nat.reduceBEq, reduceCtorEq, Int.reduceEq, Int.reduceLT, Int.reduceLE, Int.reduceNeg, Int.reduceToNat, hnb]) hon1
  have hn6' := h6.wf.1
  have hr0 : H.next ≠ r := by omega
  have hr1 : H.next + 1 ≠ r := by omega
  simp (config := { implicitDefEqProofs := false, maxDischargeDepth := 6, maxSteps := 1000000 }) only [go_sem, ↓reduceIte, Nat.reduceLT, Nat.reduceLeDiff, Nat.reduceEqDiff, Nat.reduceAdd, Nat.reduceMul, Nat.reduceSub, Nat.reduceBEq, reduceCtorEq, Int.reduceEq, Int.reduceLT, Int.reduceLE, Int.reduceNeg, Int.reduceToNat, hr6, hc0, hn6']
  refine cK_some ?_ ?_
  · simp (config := { implicitDefEqProofs := false, maxDischargeDepth := 6, maxSteps := 1000000 }) only [go_sem, ↓reduceIte, Nat.reduceLT, Nat.reduceLeDiff, Nat.reduceEqDiff, Nat.reduceAdd, Nat.reduceMul, Nat.reduceSub, Nat.reduceBEq, reduceCtorEq, Int.reduceEq, Int.reduceLT, Int.reduceLE, Int.reduceNeg, Int.reduceToNat, reK, hc0]
  · simp (config := { implicitDefEqProofs := false, maxDischargeDepth := 6, maxSteps := 1000000 }) only [go_sem, ↓reduceIte, Nat.reduceLT, Nat.reduceLeDiff, Nat.reduceEqDiff, Nat.reduceAdd, Nat.reduceMul, Nat.reduceSub, Nat.reduceBEq, reduceCtorEq, Int.reduceEq, Int.reduceLT, Int.reduceLE, Int.reduceNeg, Int.reduceToNat, hr6, hc0, hn6', hrb]
    refine Wk_w_c rfl rfl ?_
    simp (config := { implicitDefEqProofs := false, maxDischargeDepth := 6, maxSteps := 1000000 }) only [go_sem, ↓reduceIte, Nat.reduceLT, Nat.reduceLeDiff, Nat.reduceEqDiff, Nat.reduceAdd, Nat.reduceMul, Nat.reduceSub, Nat.reduceBEq, reduceCtorEq, Int.reduceEq, Int.reduceLT, Int.reduceLE, Int.reduceNeg, Int.reduceToNat, hr6, hc0, hc1, hn6', hrb, hr0, hr1]
    have h7 := h6.setRun (M' := { M with own := upd M.own (H.next + 1 + 1 + 17) (some .trace), trv := .slice (some ⟨H.next + 1 + 1 + 17, 0, none⟩) (S.trace.length + 1) openCap }) (S' := begS S i) rfl rfl rfl rfl rfl rfl (fun j hj => h6.cond j hj (by simp)) (fun j hj => h6.queue j hj (by simp)) (by
      have e : trC (begS S i).trace = trC S.trace ++ [nv i, nv (S.tk i).at_] := by simp [begS, trC_app, trC]
      have e2 : (begS S i).trace.length = S.trace.length + 1 := by simp [begS]
      rw [e, e2]; exact hO6)
    have hF7 := (((Frm.ext (M := M) hE).trans hF6).trans (Frm.set (b := r) (M' := { M with own := upd M.own (H.next + 1 + 1 + 17) (some .trace), trv := .slice (some ⟨H.next + 1 + 1 + 17, 0, none⟩) (S.trace.length + 1) openCap }) (by rw [h6.ro]; simp) (runB (rv { M with own := upd M.own (H.next + 1 + 1 + 17) (some .trace), trv := .slice (some ⟨H.next + 1 + 1 + 17, 0, none⟩) (S.trace.length + 1) openCap } (begS S i))) rfl rfl rfl))
    refine CW_mono _ (do_W h7 (S := begS S i) ⟨ok.vs, ok.ci, ok.len, ok.cb, ok.qb⟩ hi hat hq) ?_
    intro x H8 hp
    have hmx : Nat.max 21 2 = 21 := rfl
    have hst : stepM S i = match doA (begS S i) i (S.tk i).acts[(S.tk i).at_] with | (S1, none) => S1 | (S1, some n) => caughtM S1 i n := by
      unfold stepM
      rw [List.getElem?_eq_getElem hat]
    rw [hst]
    have hp : DoPost _ r _ (begS S i) (doA (begS S i) i (S.tk i).acts[(S.tk i).at_]) x H8 := hp
    generalize hda : doA (begS S i) i (S.tk i).acts[(S.tk i).at_] = da at hp ⊢
    obtain ⟨S1, po⟩ := da
    cases po with
    | none =>
      obtain ⟨rfl, M8, h8, hF8⟩ := hp
      simp (config := { implicitDefEqProofs := false, maxDischargeDepth := 6, maxSteps := 1000000 }) only [go_sem, ↓reduceIte, Nat.reduceLT, Nat.reduceLeDiff, Nat.reduceEqDiff, Nat.reduceAdd, Nat.reduceMul, Nat.reduceSub, Nat.reduceBEq, reduceCtorEq, Int.reduceEq, Int.reduceLT, Int.reduceLE, Int.reduceNeg, Int.reduceToNat, runDf, C44, L44, hmx]
      exact ⟨M8, h8, hF7.trans hF8⟩
    | some n =>
      obtain ⟨rfl, hE8⟩ := hp
      simp (config := { implicitDefEqProofs := false, maxDischargeDepth := 6, maxSteps := 1000000 }) only [go_sem, ↓reduceIte, Nat.reduceLT, Nat.reduceLeDiff, Nat.reduceEqDiff, Nat.reduceAdd, Nat.reduceMul, Nat.reduceSub, Nat.reduceBEq, reduceCtorEq, Int.reduceEq, Int.reduceLT, Int.reduceLE, Int.reduceNeg, Int.reduceToNat, runDf, C44, L44, hmx]
      have hc0' := hE8.of h7.wf (b := H.next) (x := ⟨71, 0, false, [.pointer (some ⟨r, 0, none⟩)]⟩) (by rw [get_set_ne hr0]; exact hc0)
      have hc1' := hE8.of h7.wf (b := H.next + 1) (x := ⟨77, 0, false, [.pointer (some ⟨M.ta i, 0, none⟩)]⟩) (by rw [get_set_ne hr1]; exact hc1)
      have hnb8 := hE8.wf.1
      have hl0 := hE8.wf.lt hc0'
      have hl1 := hE8.wf.lt hc1'
      simp (config := { implicitDefEqProofs := false, maxDischargeDepth := 6, maxSteps := 1000000 }) only [go_sem, ↓reduceIte, Nat.reduceLT, Nat.reduceLeDiff, Nat.reduceEqDiff, Nat.reduceAdd, Nat.reduceMul, Nat.reduceSub, Nat.reduceBEq, reduceCtorEq, Int.reduceEq, Int.reduceLT, Int.reduceLE, Int.reduceNeg, Int.reduceToNat, hc0', hc1', hnb8, hl0, hl1]
      obtain rfl := doA_pan hda
      have h9 := h7.ext (hE8.trans (((Ext.refl hE8.wf).alloc (⟨95, 0, false, [.int .i64 0]⟩ : Blk)).set (b := H8.next) (Nat.le_refl _) (by simp only [next_alloc]; omega) (⟨95, 0, false, [.int .i64 n]⟩ : Blk)))
      have hF9 := hF7.trans (Frm.ext (M := { M with own := upd M.own (H.next + 1 + 1 + 17) (some .trace), trv := .slice (some ⟨H.next + 1 + 1 + 17, 0, none⟩) (S.trace.length + 1) openCap }) (hE8.trans (((Ext.refl hE8.wf).alloc (⟨95, 0, false, [.int .i64 0]⟩ : Blk)).set (b := H8.next) (Nat.le_refl _) (by simp only [next_alloc]; omega) (⟨95, 0, false, [.int .i64 n]⟩ : Blk))))
      have hi9 : i < (begS S i).N := hi
      refine CW_mono _ (caught_W h9.wf hrb h9.run htb (h9.task i hi)) ?_
      rintro x H' ⟨rfl, hx⟩
      by_cases hg : (S.tk i).guard < 0
      · have hg' : (tkV (M.av i) ((begS S i).tk i)).guard < 0 := hg
        rw [if_pos hg'] at hx
        subst hx
        simp (config := { implicitDefEqProofs := false, maxDischargeDepth := 6, maxSteps := 1000000 }) only [go_sem, ↓reduceIte, Nat.reduceLT, Nat.reduceLeDiff, Nat.reduceEqDiff, Nat.reduceAdd, Nat.reduceMul, Nat.reduceSub, Nat.reduceBEq, reduceCtorEq, Int.reduceEq, Int.reduceLT, Int.reduceLE, Int.reduceNeg, Int.reduceToNat, ]
        have e : caughtM (begS S i) i n = { (begS S i) with tk := upd (begS S i).tk i { (begS S i).tk i with died := true, n := n } } := by
          unfold caughtM
          rw [if_pos (show ((begS S i).tk i).guard < 0 from hg)]; rfl
        rw [e]
        exact ⟨_, h9.setTask hi9 (t := { (begS S i).tk i with died := true, n := n }) rfl, hF9.trans (Frm.set (b := M.ta i) (by rw [h9.tko i hi]; simp) _ rfl rfl rfl)⟩
      · have hg' : ¬ (tkV (M.av i) ((begS S i).tk i)).guard < 0 := hg
        rw [if_neg hg'] at hx
        subst hx
        simp (config := { implicitDefEqProofs := false, maxDischargeDepth := 6, maxSteps := 1000000 }) only [go_sem, ↓reduceIte, Nat.reduceLT, Nat.reduceLeDiff, Nat.reduceEqDiff, Nat.reduceAdd, Nat.reduceMul, Nat.reduceSub, Nat.reduceBEq, reduceCtorEq, Int.reduceEq, Int.reduceLT, Int.reduceLE, Int.reduceNeg, Int.reduceToNat, ]
        have h10 := h9.setTask hi9 (t := { (begS S i).tk i with at_ := (S.tk i).guard.toNat, guard := -1, wait := 0 }) rfl
        have h11 := h10.setRun (M' := { M with own := upd M.own (H.next + 1 + 1 + 17) (some .trace), trv := .slice (some ⟨H.next + 1 + 1 + 17, 0, none⟩) (S.trace.length + 1) openCap }) (S' := caughtM (begS S i) i n) rfl rfl rfl rfl (by unfold caughtM; split <;> rfl)
          (by unfold caughtM; rw [if_neg (show ¬ ((begS S i).tk i).guard < 0 from hg)]; rfl) (by unfold caughtM; rw [if_neg (show ¬ ((begS S i).tk i).guard < 0 from hg)]; exact fun j hj => h10.cond j hj (by simp))
          (by unfold caughtM; rw [if_neg (show ¬ ((begS S i).tk i).guard < 0 from hg)]; exact fun j hj => h10.queue j hj (by simp)) (by unfold caughtM; rw [if_neg (show ¬ ((begS S i).tk i).guard < 0 from hg)]; exact h10.trace (by simp))
        have hgz : ((S.tk i).guard.toNat : Int) = (S.tk i).guard := by omega
        refine ⟨{ M with own := upd M.own (H.next + 1 + 1 + 17) (some .trace), trv := .slice (some ⟨H.next + 1 + 1 + 17, 0, none⟩) (S.trace.length + 1) openCap }, ?_, (hF9.trans (Frm.set (b := M.ta i) (M' := { M with own := upd M.own (H.next + 1 + 1 + 17) (some .trace), trv := .slice (some ⟨H.next + 1 + 1 + 17, 0, none⟩) (S.trace.length + 1) openCap }) (by rw [h9.tko i hi]; simp) _ rfl rfl rfl)).trans (Frm.set (b := r) (by rw [h9.ro]; simp) _ rfl rfl rfl)⟩
        have e1 : taskB { acts := M.av i, at_ := ((begS S i).tk i).guard, guard := -1, wait := 0, died := ((begS S i).tk i).died, n := ((begS S i).tk i).n } = taskB (tkV (M.av i) { (begS S i).tk i with at_ := (S.tk i).guard.toNat, guard := -1, wait := 0 }) := by
          unfold tkV
          rw [hgz]; rfl
        have e2 : runB (rv { M with own := upd M.own (H.next + 1 + 1 + 17) (some .trace), trv := .slice (some ⟨H.next + 1 + 1 + 17, 0, none⟩) (S.trace.length + 1) openCap } (caughtM (begS S i) i n)) =
            runB { tasks := M.tv, room := (begS S i).room, locks := (begS S i).locks, conds := M.cv, queues := M.qv, regs := upd (begS S i).regs 7 n, last := (begS S i).last, trace := .slice (some ⟨H.next + 1 + 1 + 17, 0, none⟩) (S.trace.length + 1) openCap } := by
          unfold caughtM; rw [if_neg (show ¬ ((begS S i).tk i).guard < 0 from hg)]; rfl
        rw [e1, ← e2]
        exact h11
end Go.Am.T
