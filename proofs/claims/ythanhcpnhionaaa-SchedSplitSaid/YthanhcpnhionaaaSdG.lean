/- The walks of the scheduler's functions: do. Conditions: those of each theorem. -/
import Derived.Test.YthanhcpnhionaaaSdF
set_option linter.all false
set_option linter.unusedSimpArgs false
set_option linter.unusedVariables false
namespace Go.Am.T
open Go Go.Am Go.Proofs.Ythanhcpnhionaaa Go.Proofs

def adv (S : Sx) (i : Nat) : Sx := setTk S i { S.tk i with at_ := (S.tk i).at_ + 1 }
def doA (S : Sx) (i : Nat) (a : Act) : Sx × Option Int :=
  if a.k = 1 then (adv { S with locks := upd S.locks a.a.toNat i } i, none)
  else if a.k = 2 then if S.locks a.a.toNat = i then (adv { S with locks := upd S.locks a.a.toNat (-1) } i, none) else (S, some (-1))
  else if a.k = 3 then
    if (S.tk i).wait = 0 then if S.locks a.b.toNat = i then (waitS0 S i a, none) else (S, some (-1))
    else (adv (waitS2 S i a) i, none)
  else if a.k = 4 then (adv (wakeM S a.a.toNat (min 1 (S.conds a.a.toNat).length)) i, none)
  else if a.k = 5 then (adv (wakeM S a.a.toNat (S.conds a.a.toNat).length) i, none)
  else if a.k = 6 then (adv { S with queues := upd S.queues a.a.toNat (S.queues a.a.toNat ++ [a.n]) } i, none)
  else if a.k = 7 then (adv { S with regs := upd S.regs a.b.toNat ((S.queues a.a.toNat).headD 0), queues := upd S.queues a.a.toNat (S.queues a.a.toNat).tail } i, none)
  else if a.k = 8 then (adv { S with regs := upd S.regs a.a.toNat (IntKind.i64.wrap (S.regs a.a.toNat + a.n)) } i, none)
  else if a.k = 9 then (adv { S with regs := upd S.regs a.b.toNat (S.regs a.a.toNat) } i, none)
  else if a.k = 10 then
    if S.regs a.a.toNat = 0 then (adv (setTk S i { S.tk i with at_ := min ((S.tk i).at_ + a.n.toNat) (S.tk i).acts.length }) i, none)
    else (adv S i, none)
  else if a.k = 12 then (S, some a.n)
  else if a.k = 13 then (adv (setTk S i { S.tk i with guard := a.n }) i, none)
  else (adv S i, none)

/- what do comes to -/
def DoPost (H : Heap) (r : Nat) (M : Mem) (S : Sx) (d : Sx × Option Int) (x : CR) (H' : Heap) : Prop :=
  match d.2 with
  | none => x = .ret (.tuple #[]) ∧ ∃ M', Rep H' r M' d.1 ∧ Frm H M H' M'
  | some n => x = .pan (boom n) ∧ Ext H H'


theorem DoPost.ok {H H' : Heap} {r : Nat} {M : Mem} {S S1 : Sx} (h : ∃ M', Rep H' r M' S1 ∧ Frm H M H' M') : DoPost H r M S (S1, none) (.ret (.tuple #[])) H' := ⟨rfl, h⟩
theorem DoPost.pan {H H' : Heap} {r : Nat} {M : Mem} {S S1 : Sx} {n : Int} (h : Ext H H') : DoPost H r M S (S1, some n) (.pan (boom n)) H' := ⟨rfl, h⟩
theorem Rep_fin {H G : Heap} {r : Nat} {M M1 : Mem} {S1 : Sx} (h : Rep G r M1 S1) (hF : Frm H M G M1) {i : Nat} (hi : i < S1.N) : ∃ M', Rep (G.set (M1.ta i) (taskB (tkV (M1.av i) { S1.tk i with at_ := (S1.tk i).at_ + 1 }))) r M' (adv S1 i) ∧ Frm H M (G.set (M1.ta i) (taskB (tkV (M1.av i) { S1.tk i with at_ := (S1.tk i).at_ + 1 }))) M' :=
  ⟨M1, h.setTask hi rfl, hF.trans (Frm.set (by rw [h.tko i hi]; simp) _ rfl rfl rfl)⟩
theorem Rep_run {G : Heap} {r : Nat} {M : Mem} {S : Sx} (h : Rep G r M S) (k : Nat) {S1 : Sx} (eN : S1.N = S.N) (etk : S1.tk = S.tk) (ec : S1.conds = S.conds) (eq : S1.queues = S.queues) (et : S1.trace = S.trace) :
    Rep ((bump G k).set r (runB (rv M S1))) r M S1 ∧ Frm G M ((bump G k).set r (runB (rv M S1))) M := by
  have h2 := h.ext (Ext.bump (Ext.refl h.wf) k)
  refine ⟨h2.setRun rfl rfl rfl rfl eN etk (fun j hj => ?_) (fun j hj => ?_) ?_, (Frm.ext (Ext.bump (Ext.refl h.wf) k)).trans (Frm.set (by rw [h2.ro]; simp) _ rfl rfl rfl)⟩
  · rw [ec]; exact h2.cond j hj (by simp)
  · rw [eq]; exact h2.queue j hj (by simp)
  · rw [et]; exact h2.trace (by simp)

theorem do_1 {H : Heap} {r : Nat} {M : Mem} {S : Sx} (h : Rep H r M S) {i : Nat} (hi : i < S.N) (hat : (S.tk i).at_ < (S.tk i).acts.length) (hlen : (S.tk i).acts.length ≤ 65536) (hV : Valid (S.tk i).acts.length (S.tk i).acts[(S.tk i).at_])
    (hk : (S.tk i).acts[(S.tk i).at_].k = 1) :
   CW Try.prog 46 #[.pointer (some ⟨r, 0, none⟩), nv i, .pointer (some ⟨M.ta i, 0, none⟩)] H (DoPost H r M S (doA S i (S.tk i).acts[(S.tk i).at_])) := by
  refine CW_k (n := 190) if46 rfl ?_
  unfold C46
  have htk := h.task i hi
  have htb := h.tkb i hi
  simp (config := { implicitDefEqProofs := false, maxDischargeDepth := 6, maxSteps := 1000000 }) only [go_sem, ↓reduceIte, Nat.reduceLT, Nat.reduceLeDiff, Nat.reduceEqDiff, Nat.reduceAdd, Nat.reduceMul, Nat.reduceSub, Nat.reduceBEq, reduceCtorEq, Int.reduceEq, Int.reduceLT, Int.reduceLE, Int.reduceNeg, Int.reduceToNat, nv]
  refine CW_mono _ (act_W h.wf htk (h.actsAt hi) hat rfl) ?_
  rintro _ H1 ⟨rfl, hE1⟩
  generalize (S.tk i).acts[(S.tk i).at_] = a at *
  have hE := hE1.alloc (⟨47, 0, false, [.int .i64 0, .int .i64 0, .int .i64 0, .int .i64 0]⟩ : Blk)
  have hE2 := hE.set (b := H1.next) hE1.le (by simp only [next_alloc]; omega) (⟨47, 0, false, a.cells⟩ : Blk)
  have h1 := h.ext hE2
  have hnb := hE1.wf.1
  have hcell : ((H1.alloc (⟨47, 0, false, [.int .i64 0, .int .i64 0, .int .i64 0, .int .i64 0]⟩ : Blk)).set H1.next ⟨47, 0, false, a.cells⟩).get H1.next = some ⟨47, 0, false, a.cells⟩ := get_set_eq hnb
  have hnx : ((H1.alloc (⟨47, 0, false, [.int .i64 0, .int .i64 0, .int .i64 0, .int .i64 0]⟩ : Blk)).set H1.next ⟨47, 0, false, a.cells⟩).next = H1.next + 1 := by simp only [next_set, next_alloc]
  have hon : M.own H1.next = none := by
    have h2 := h.lt H1.next; by_cases e : M.own H1.next = none
    · exact e
    · exact absurd (h2 e) (by have := hE1.le; omega)
  simp (config := { implicitDefEqProofs := false, maxDischargeDepth := 6, maxSteps := 1000000 }) only [go_sem, ↓reduceIte, Nat.reduceLT, Nat.reduceLeDiff, Nat.reduceEqDiff, Nat.reduceAdd, Nat.reduceMul, Nat.reduceSub, Nat.reduceBEq, reduceCtorEq, Int.reduceEq, Int.reduceLT, Int.reduceLE, Int.reduceNeg, Int.reduceToNat, hnb]
  generalize hG : (H1.alloc (⟨47, 0, false, [.int .i64 0, .int .i64 0, .int .i64 0, .int .i64 0]⟩ : Blk)).set H1.next ⟨47, 0, false, a.cells⟩ = G at *
  have htk1 := h1.task i hi
  have hr1 := h1.run
  have hrb := h1.rb
  have hgb := h1.wf.1
  have hrl := h1.lt r (by rw [h1.ro]; simp)
  have htl := h1.lt (M.ta i) (by rw [h1.tko i hi]; simp)
  have hne := h.ne_rt hi
  have hrn : r < H1.next := by have := h.lt r (by rw [h.ro]; simp); have := hE1.le; omega
  have hne' := hne.symm
  have hwr : IntKind.i64.wrap (((S.tk i).at_ : Int) + 1) = (((S.tk i).at_ + 1 : Nat) : Int) := IntWalk.i64_in _ (by omega)
  obtain ⟨h0, h4⟩ := hV.a4 (by omega)
  have hA : a.a.toNat < 4 := by omega
  simp (config := { implicitDefEqProofs := false, maxDischargeDepth := 6, maxSteps := 1000000 }) only [go_sem, ↓reduceIte, Nat.reduceLT, Nat.reduceLeDiff, Nat.reduceEqDiff, Nat.reduceAdd, Nat.reduceMul, Nat.reduceSub, Nat.reduceBEq, reduceCtorEq, Int.reduceEq, Int.reduceLT, Int.reduceLE, Int.reduceNeg, Int.reduceToNat, hk, h0, h4, hA, htk1, hr1, hrb, hgb, hrl, htl, hne, hne', hwr, hcell, htb, nv]
  have hd : doA S i a = (adv { S with locks := upd S.locks a.a.toNat i } i, none) := by simp [doA, hk]
  rw [hd]
  obtain ⟨hR, hF⟩ := Rep_run h1 9 (S1 := { S with locks := upd S.locks a.a.toNat i }) rfl rfl rfl rfl rfl
  exact DoPost.ok (Rep_fin hR ((Frm.ext hE2).trans hF) hi)

theorem do_2 {H : Heap} {r : Nat} {M : Mem} {S : Sx} (h : Rep H r M S) {i : Nat} (hi : i < S.N) (hat : (S.tk i).at_ < (S.tk i).acts.length) (hlen : (S.tk i).acts.length ≤ 65536) (hV : Valid (S.tk i).acts.length (S.tk i).acts[(S.tk i).at_])
    (hk : (S.tk i).acts[(S.tk i).at_].k = 2) :
   CW Try.prog 46 #[.pointer (some ⟨r, 0, none⟩), nv i, .pointer (some ⟨M.ta i, 0, none⟩)] H (DoPost H r M S (doA S i (S.tk i).acts[(S.tk i).at_])) := by
  refine CW_k (n := 190) if46 rfl ?_
  unfold C46
  have htk := h.task i hi
  have htb := h.tkb i hi
  simp (config := { implicitDefEqProofs := false, maxDischargeDepth := 6, maxSteps := 1000000 }) only [go_sem, ↓reduceIte, Nat.reduceLT, Nat.reduceLeDiff, Nat.reduceEqDiff, Nat.reduceAdd, Nat.reduceMul, Nat.reduceSub, Nat.reduceBEq, reduceCtorEq, Int.reduceEq, Int.reduceLT, Int.reduceLE, Int.reduceNeg, Int.reduceToNat, nv]
  refine CW_mono _ (act_W h.wf htk (h.actsAt hi) hat rfl) ?_
  rintro _ H1 ⟨rfl, hE1⟩
  generalize (S.tk i).acts[(S.tk i).at_] = a at *
  have hE := hE1.alloc (⟨47, 0, false, [.int .i64 0, .int .i64 0, .int .i64 0, .int .i64 0]⟩ : Blk)
  have hE2 := hE.set (b := H1.next) hE1.le (by simp only [next_alloc]; omega) (⟨47, 0, false, a.cells⟩ : Blk)
  have h1 := h.ext hE2
  have hnb := hE1.wf.1
  have hcell : ((H1.alloc (⟨47, 0, false, [.int .i64 0, .int .i64 0, .int .i64 0, .int .i64 0]⟩ : Blk)).set H1.next ⟨47, 0, false, a.cells⟩).get H1.next = some ⟨47, 0, false, a.cells⟩ := get_set_eq hnb
  have hnx : ((H1.alloc (⟨47, 0, false, [.int .i64 0, .int .i64 0, .int .i64 0, .int .i64 0]⟩ : Blk)).set H1.next ⟨47, 0, false, a.cells⟩).next = H1.next + 1 := by simp only [next_set, next_alloc]
  have hon : M.own H1.next = none := by
    have h2 := h.lt H1.next; by_cases e : M.own H1.next = none
    · exact e
    · exact absurd (h2 e) (by have := hE1.le; omega)
  simp (config := { implicitDefEqProofs := false, maxDischargeDepth := 6, maxSteps := 1000000 }) only [go_sem, ↓reduceIte, Nat.reduceLT, Nat.reduceLeDiff, Nat.reduceEqDiff, Nat.reduceAdd, Nat.reduceMul, Nat.reduceSub, Nat.reduceBEq, reduceCtorEq, Int.reduceEq, Int.reduceLT, Int.reduceLE, Int.reduceNeg, Int.reduceToNat, hnb]
  generalize hG : (H1.alloc (⟨47, 0, false, [.int .i64 0, .int .i64 0, .int .i64 0, .int .i64 0]⟩ : Blk)).set H1.next ⟨47, 0, false, a.cells⟩ = G at *
  have htk1 := h1.task i hi
  have hr1 := h1.run
  have hrb := h1.rb
  have hgb := h1.wf.1
  have hrl := h1.lt r (by rw [h1.ro]; simp)
  have htl := h1.lt (M.ta i) (by rw [h1.tko i hi]; simp)
  have hne := h.ne_rt hi
  have hrn : r < H1.next := by have := h.lt r (by rw [h.ro]; simp); have := hE1.le; omega
  have hne' := hne.symm
  have hwr : IntKind.i64.wrap (((S.tk i).at_ : Int) + 1) = (((S.tk i).at_ + 1 : Nat) : Int) := IntWalk.i64_in _ (by omega)
  obtain ⟨h0, h4⟩ := hV.a4 (by omega)
  have hA : a.a.toNat < 4 := by omega
  simp (config := { implicitDefEqProofs := false, maxDischargeDepth := 6, maxSteps := 1000000 }) only [go_sem, ↓reduceIte, Nat.reduceLT, Nat.reduceLeDiff, Nat.reduceEqDiff, Nat.reduceAdd, Nat.reduceMul, Nat.reduceSub, Nat.reduceBEq, reduceCtorEq, Int.reduceEq, Int.reduceLT, Int.reduceLE, Int.reduceNeg, Int.reduceToNat, hk, h0, h4, hA, htk1, hr1, hrb, hgb, hrl, htl, hne, hne', hwr, hcell, htb, nv]
  refine CW_mono _ (free_W h1.wf hrb hr1 h0 h4) ?_
  by_cases hl : S.locks a.a.toNat = i
  · have hl' : (rv M S).locks a.a.toNat = i := hl
    rintro x H' hx
    rw [if_pos hl'] at hx
    obtain ⟨rfl, rfl⟩ := hx
    simp (config := { implicitDefEqProofs := false, maxDischargeDepth := 6, maxSteps := 1000000 }) only [go_sem, ↓reduceIte, Nat.reduceLT, Nat.reduceLeDiff, Nat.reduceEqDiff, Nat.reduceAdd, Nat.reduceMul, Nat.reduceSub, Nat.reduceBEq, reduceCtorEq, Int.reduceEq, Int.reduceLT, Int.reduceLE, Int.reduceNeg, Int.reduceToNat, htk1, hr1, hrb, hgb, hrl, htl, hne, hne', hwr, hcell, htb, nv]
    have hd : doA S i a = (adv { S with locks := upd S.locks a.a.toNat (-1) } i, none) := by simp [doA, hk, hl]
    rw [hd]
    obtain ⟨hR, hF⟩ := Rep_run h1 0 (S1 := { S with locks := upd S.locks a.a.toNat (-1) }) rfl rfl rfl rfl rfl
    exact DoPost.ok (Rep_fin hR ((Frm.ext hE2).trans hF) hi)
  · have hl' : ¬ (rv M S).locks a.a.toNat = i := hl
    rintro x H' hx
    rw [if_neg hl'] at hx
    obtain ⟨rfl, rfl⟩ := hx
    simp (config := { implicitDefEqProofs := false, maxDischargeDepth := 6, maxSteps := 1000000 }) only [go_sem, ↓reduceIte, Nat.reduceLT, Nat.reduceLeDiff, Nat.reduceEqDiff, Nat.reduceAdd, Nat.reduceMul, Nat.reduceSub, Nat.reduceBEq, reduceCtorEq, Int.reduceEq, Int.reduceLT, Int.reduceLE, Int.reduceNeg, Int.reduceToNat, htk1, hr1, hrb, hgb, hrl, htl, hne, hne', hwr, hcell, htb, nv]
    have hd : doA S i a = (S, some (-1)) := by simp [doA, hk, hl]
    rw [hd]
    exact DoPost.pan hE2

theorem do_8 {H : Heap} {r : Nat} {M : Mem} {S : Sx} (h : Rep H r M S) {i : Nat} (hi : i < S.N) (hat : (S.tk i).at_ < (S.tk i).acts.length) (hlen : (S.tk i).acts.length ≤ 65536) (hV : Valid (S.tk i).acts.length (S.tk i).acts[(S.tk i).at_])
    (hk : (S.tk i).acts[(S.tk i).at_].k = 8) :
   CW Try.prog 46 #[.pointer (some ⟨r, 0, none⟩), nv i, .pointer (some ⟨M.ta i, 0, none⟩)] H (DoPost H r M S (doA S i (S.tk i).acts[(S.tk i).at_])) := by
  refine CW_k (n := 190) if46 rfl ?_
  unfold C46
  have htk := h.task i hi
  have htb := h.tkb i hi
  simp (config := { implicitDefEqProofs := false, maxDischargeDepth := 6, maxSteps := 1000000 }) only [go_sem, ↓reduceIte, Nat.reduceLT, Nat.reduceLeDiff, Nat.reduceEqDiff, Nat.reduceAdd, Nat.reduceMul, Nat.reduceSub, Nat.reduceBEq, reduceCtorEq, Int.reduceEq, Int.reduceLT, Int.reduceLE, Int.reduceNeg, Int.reduceToNat, nv]
  refine CW_mono _ (act_W h.wf htk (h.actsAt hi) hat rfl) ?_
  rintro _ H1 ⟨rfl, hE1⟩
  generalize (S.tk i).acts[(S.tk i).at_] = a at *
  have hE := hE1.alloc (⟨47, 0, false, [.int .i64 0, .int .i64 0, .int .i64 0, .int .i64 0]⟩ : Blk)
  have hE2 := hE.set (b := H1.next) hE1.le (by simp only [next_alloc]; omega) (⟨47, 0, false, a.cells⟩ : Blk)
  have h1 := h.ext hE2
  have hnb := hE1.wf.1
  have hcell : ((H1.alloc (⟨47, 0, false, [.int .i64 0, .int .i64 0, .int .i64 0, .int .i64 0]⟩ : Blk)).set H1.next ⟨47, 0, false, a.cells⟩).get H1.next = some ⟨47, 0, false, a.cells⟩ := get_set_eq hnb
  have hnx : ((H1.alloc (⟨47, 0, false, [.int .i64 0, .int .i64 0, .int .i64 0, .int .i64 0]⟩ : Blk)).set H1.next ⟨47, 0, false, a.cells⟩).next = H1.next + 1 := by simp only [next_set, next_alloc]
  have hon : M.own H1.next = none := by
    have h2 := h.lt H1.next; by_cases e : M.own H1.next = none
    · exact e
    · exact absurd (h2 e) (by have := hE1.le; omega)
  simp (config := { implicitDefEqProofs := false, maxDischargeDepth := 6, maxSteps := 1000000 }) only [go_sem, ↓reduceIte, Nat.reduceLT, Nat.reduceLeDiff, Nat.reduceEqDiff, Nat.reduceAdd, Nat.reduceMul, Nat.reduceSub, Nat.reduceBEq, reduceCtorEq, Int.reduceEq, Int.reduceLT, Int.reduceLE, Int.reduceNeg, Int.reduceToNat, hnb]
  generalize hG : (H1.alloc (⟨47, 0, false, [.int .i64 0, .int .i64 0, .int .i64 0, .int .i64 0]⟩ : Blk)).set H1.next ⟨47, 0, false, a.cells⟩ = G at *
  have htk1 := h1.task i hi
  have hr1 := h1.run
  have hrb := h1.rb
  have hgb := h1.wf.1
  have hrl := h1.lt r (by rw [h1.ro]; simp)
  have htl := h1.lt (M.ta i) (by rw [h1.tko i hi]; simp)
  have hne := h.ne_rt hi
  have hrn : r < H1.next := by have := h.lt r (by rw [h.ro]; simp); have := hE1.le; omega
  have hne' := hne.symm
  have hwr : IntKind.i64.wrap (((S.tk i).at_ : Int) + 1) = (((S.tk i).at_ + 1 : Nat) : Int) := IntWalk.i64_in _ (by omega)
  obtain ⟨h0, h4⟩ := hV.a8 (by omega)
  have hA : a.a.toNat < 8 := by omega
  simp (config := { implicitDefEqProofs := false, maxDischargeDepth := 6, maxSteps := 1000000 }) only [go_sem, ↓reduceIte, Nat.reduceLT, Nat.reduceLeDiff, Nat.reduceEqDiff, Nat.reduceAdd, Nat.reduceMul, Nat.reduceSub, Nat.reduceBEq, reduceCtorEq, Int.reduceEq, Int.reduceLT, Int.reduceLE, Int.reduceNeg, Int.reduceToNat, hk, h0, h4, hA, htk1, hr1, hrb, hgb, hrl, htl, hne, hne', hwr, hcell, htb, nv]
  have hd : doA S i a = (adv { S with regs := upd S.regs a.a.toNat (IntKind.i64.wrap (S.regs a.a.toNat + a.n)) } i, none) := by simp [doA, hk]
  rw [hd]
  obtain ⟨hR, hF⟩ := Rep_run h1 15 (S1 := { S with regs := upd S.regs a.a.toNat (IntKind.i64.wrap (S.regs a.a.toNat + a.n)) }) rfl rfl rfl rfl rfl
  exact DoPost.ok (Rep_fin hR ((Frm.ext hE2).trans hF) hi)

theorem do_9 {H : Heap} {r : Nat} {M : Mem} {S : Sx} (h : Rep H r M S) {i : Nat} (hi : i < S.N) (hat : (S.tk i).at_ < (S.tk i).acts.length) (hlen : (S.tk i).acts.length ≤ 65536) (hV : Valid (S.tk i).acts.length (S.tk i).acts[(S.tk i).at_])
    (hk : (S.tk i).acts[(S.tk i).at_].k = 9) :
   CW Try.prog 46 #[.pointer (some ⟨r, 0, none⟩), nv i, .pointer (some ⟨M.ta i, 0, none⟩)] H (DoPost H r M S (doA S i (S.tk i).acts[(S.tk i).at_])) := by
  refine CW_k (n := 190) if46 rfl ?_
  unfold C46
  have htk := h.task i hi
  have htb := h.tkb i hi
  simp (config := { implicitDefEqProofs := false, maxDischargeDepth := 6, maxSteps := 1000000 }) only [go_sem, ↓reduceIte, Nat.reduceLT, Nat.reduceLeDiff, Nat.reduceEqDiff, Nat.reduceAdd, Nat.reduceMul, Nat.reduceSub, Nat.reduceBEq, reduceCtorEq, Int.reduceEq, Int.reduceLT, Int.reduceLE, Int.reduceNeg, Int.reduceToNat, nv]
  refine CW_mono _ (act_W h.wf htk (h.actsAt hi) hat rfl) ?_
  rintro _ H1 ⟨rfl, hE1⟩
  generalize (S.tk i).acts[(S.tk i).at_] = a at *
  have hE := hE1.alloc (⟨47, 0, false, [.int .i64 0, .int .i64 0, .int .i64 0, .int .i64 0]⟩ : Blk)
  have hE2 := hE.set (b := H1.next) hE1.le (by simp only [next_alloc]; omega) (⟨47, 0, false, a.cells⟩ : Blk)
  have h1 := h.ext hE2
  have hnb := hE1.wf.1
  have hcell : ((H1.alloc (⟨47, 0, false, [.int .i64 0, .int .i64 0, .int .i64 0, .int .i64 0]⟩ : Blk)).set H1.next ⟨47, 0, false, a.cells⟩).get H1.next = some ⟨47, 0, false, a.cells⟩ := get_set_eq hnb
  have hnx : ((H1.alloc (⟨47, 0, false, [.int .i64 0, .int .i64 0, .int .i64 0, .int .i64 0]⟩ : Blk)).set H1.next ⟨47, 0, false, a.cells⟩).next = H1.next + 1 := by simp only [next_set, next_alloc]
  have hon : M.own H1.next = none := by
    have h2 := h.lt H1.next; by_cases e : M.own H1.next = none
    · exact e
    · exact absurd (h2 e) (by have := hE1.le; omega)
  simp (config := { implicitDefEqProofs := false, maxDischargeDepth := 6, maxSteps := 1000000 }) only [go_sem, ↓reduceIte, Nat.reduceLT, Nat.reduceLeDiff, Nat.reduceEqDiff, Nat.reduceAdd, Nat.reduceMul, Nat.reduceSub, Nat.reduceBEq, reduceCtorEq, Int.reduceEq, Int.reduceLT, Int.reduceLE, Int.reduceNeg, Int.reduceToNat, hnb]
  generalize hG : (H1.alloc (⟨47, 0, false, [.int .i64 0, .int .i64 0, .int .i64 0, .int .i64 0]⟩ : Blk)).set H1.next ⟨47, 0, false, a.cells⟩ = G at *
  have htk1 := h1.task i hi
  have hr1 := h1.run
  have hrb := h1.rb
  have hgb := h1.wf.1
  have hrl := h1.lt r (by rw [h1.ro]; simp)
  have htl := h1.lt (M.ta i) (by rw [h1.tko i hi]; simp)
  have hne := h.ne_rt hi
  have hrn : r < H1.next := by have := h.lt r (by rw [h.ro]; simp); have := hE1.le; omega
  have hne' := hne.symm
  have hwr : IntKind.i64.wrap (((S.tk i).at_ : Int) + 1) = (((S.tk i).at_ + 1 : Nat) : Int) := IntWalk.i64_in _ (by omega)
  obtain ⟨h0, h4⟩ := hV.a8 (by omega)
  obtain ⟨h0b, h4b⟩ := hV.b8 (by omega)
  have hA : a.a.toNat < 8 := by omega
  have hB : a.b.toNat < 8 := by omega
  simp (config := { implicitDefEqProofs := false, maxDischargeDepth := 6, maxSteps := 1000000 }) only [go_sem, ↓reduceIte, Nat.reduceLT, Nat.reduceLeDiff, Nat.reduceEqDiff, Nat.reduceAdd, Nat.reduceMul, Nat.reduceSub, Nat.reduceBEq, reduceCtorEq, Int.reduceEq, Int.reduceLT, Int.reduceLE, Int.reduceNeg, Int.reduceToNat, hk, h0, h4, hA, h0b, h4b, hB, htk1, hr1, hrb, hgb, hrl, htl, hne, hne', hwr, hcell, htb, nv]
  have hd : doA S i a = (adv { S with regs := upd S.regs a.b.toNat (S.regs a.a.toNat) } i, none) := by simp [doA, hk]
  rw [hd]
  obtain ⟨hR, hF⟩ := Rep_run h1 15 (S1 := { S with regs := upd S.regs a.b.toNat (S.regs a.a.toNat) }) rfl rfl rfl rfl rfl
  exact DoPost.ok (Rep_fin hR ((Frm.ext hE2).trans hF) hi)

theorem do_10 {H : Heap} {r : Nat} {M : Mem} {S : Sx} (h : Rep H r M S) {i : Nat} (hi : i < S.N) (hat : (S.tk i).at_ < (S.tk i).acts.length) (hlen : (S.tk i).acts.length ≤ 65536) (hV : Valid (S.tk i).acts.length (S.tk i).acts[(S.tk i).at_])
    (hk : (S.tk i).acts[(S.tk i).at_].k = 10) :
   CW Try.prog 46 #[.pointer (some ⟨r, 0, none⟩), nv i, .pointer (some ⟨M.ta i, 0, none⟩)] H (DoPost H r M S (doA S i (S.tk i).acts[(S.tk i).at_])) := by
  refine CW_k (n := 190) if46 rfl ?_
  unfold C46
  have htk := h.task i hi
  have htb := h.tkb i hi
  simp (config := { implicitDefEqProofs := false, maxDischargeDepth := 6, maxSteps := 1000000 }) only [go_sem, ↓reduceIte, Nat.reduceLT, Nat.reduceLeDiff, Nat.reduceEqDiff, Nat.reduceAdd, Nat.reduceMul, Nat.reduceSub, Nat.reduceBEq, reduceCtorEq, Int.reduceEq, Int.reduceLT, Int.reduceLE, Int.reduceNeg, Int.reduceToNat, nv]
  refine CW_mono _ (act_W h.wf htk (h.actsAt hi) hat rfl) ?_
  rintro _ H1 ⟨rfl, hE1⟩
  generalize (S.tk i).acts[(S.tk i).at_] = a at *
  have hE := hE1.alloc (⟨47, 0, false, [.int .i64 0, .int .i64 0, .int .i64 0, .int .i64 0]⟩ : Blk)
  have hE2 := hE.set (b := H1.next) hE1.le (by simp only [next_alloc]; omega) (⟨47, 0, false, a.cells⟩ : Blk)
  have h1 := h.ext hE2
  have hnb := hE1.wf.1
  have hcell : ((H1.alloc (⟨47, 0, false, [.int .i64 0, .int .i64 0, .int .i64 0, .int .i64 0]⟩ : Blk)).set H1.next ⟨47, 0, false, a.cells⟩).get H1.next = some ⟨47, 0, false, a.cells⟩ := get_set_eq hnb
  have hnx : ((H1.alloc (⟨47, 0, false, [.int .i64 0, .int .i64 0, .int .i64 0, .int .i64 0]⟩ : Blk)).set H1.next ⟨47, 0, false, a.cells⟩).next = H1.next + 1 := by simp only [next_set, next_alloc]
  have hon : M.own H1.next = none := by
    have h2 := h.lt H1.next; by_cases e : M.own H1.next = none
    · exact e
    · exact absurd (h2 e) (by have := hE1.le; omega)
  simp (config := { implicitDefEqProofs := false, maxDischargeDepth := 6, maxSteps := 1000000 }) only [go_sem, ↓reduceIte, Nat.reduceLT, Nat.reduceLeDiff, Nat.reduceEqDiff, Nat.reduceAdd, Nat.reduceMul, Nat.reduceSub, Nat.reduceBEq, reduceCtorEq, Int.reduceEq, Int.reduceLT, Int.reduceLE, Int.reduceNeg, Int.reduceToNat, hnb]
  generalize hG : (H1.alloc (⟨47, 0, false, [.int .i64 0, .int .i64 0, .int .i64 0, .int .i64 0]⟩ : Blk)).set H1.next ⟨47, 0, false, a.cells⟩ = G at *
  have htk1 := h1.task i hi
  have hr1 := h1.run
  have hrb := h1.rb
  have hgb := h1.wf.1
  have hrl := h1.lt r (by rw [h1.ro]; simp)
  have htl := h1.lt (M.ta i) (by rw [h1.tko i hi]; simp)
  have hne := h.ne_rt hi
  have hrn : r < H1.next := by have := h.lt r (by rw [h.ro]; simp); have := hE1.le; omega
  have hne' := hne.symm
  have hwr : IntKind.i64.wrap (((S.tk i).at_ : Int) + 1) = (((S.tk i).at_ + 1 : Nat) : Int) := IntWalk.i64_in _ (by omega)
  obtain ⟨h0, h4⟩ := hV.a8 (by omega)
  obtain ⟨hn0, hn1⟩ := hV.n10 hk
  have hA : a.a.toNat < 8 := by omega
  obtain ⟨sa, sc, hav⟩ := (h1.actsAt hi).len
  have hwn : IntKind.i64.wrap a.n = a.n := IntWalk.i64_in _ (by omega)
  have hws : IntKind.i64.wrap (((S.tk i).at_ : Int) + a.n) = (((S.tk i).at_ + a.n.toNat : Nat) : Int) := by rw [IntWalk.i64_in _ (by omega)]; omega
  have hwm : (if (((S.tk i).acts.length : Nat) : Int) < (((S.tk i).at_ + a.n.toNat : Nat) : Int) then (((S.tk i).acts.length : Nat) : Int) else (((S.tk i).at_ + a.n.toNat : Nat) : Int)) = ((min ((S.tk i).at_ + a.n.toNat) (S.tk i).acts.length : Nat) : Int) := by
    split <;> omega
  have hwr2 : IntKind.i64.wrap (((min ((S.tk i).at_ + a.n.toNat) (S.tk i).acts.length : Nat) : Int) + 1) = ((min ((S.tk i).at_ + a.n.toNat) (S.tk i).acts.length + 1 : Nat) : Int) := IntWalk.i64_in _ (by omega)
  by_cases hz : S.regs a.a.toNat = 0
  · simp (config := { implicitDefEqProofs := false, maxDischargeDepth := 6, maxSteps := 1000000 }) only [go_sem, ↓reduceIte, Nat.reduceLT, Nat.reduceLeDiff, Nat.reduceEqDiff, Nat.reduceAdd, Nat.reduceMul, Nat.reduceSub, Nat.reduceBEq, reduceCtorEq, Int.reduceEq, Int.reduceLT, Int.reduceLE, Int.reduceNeg, Int.reduceToNat, hk, h0, h4, hA, hz, hav, goInt, hwn, hws, hwm, hwr2, htk1, hr1, hrb, hgb, hrl, htl, hne, hne', hwr, hcell, htb, nv]
    have hd : doA S i a = (adv (setTk S i { S.tk i with at_ := min ((S.tk i).at_ + a.n.toNat) (S.tk i).acts.length }) i, none) := by simp [doA, hk, hz]
    rw [hd]
    have h2 := h1.ext (Ext.bump (Ext.refl h1.wf) 18)
    have h3 := h2.setTask hi (t := { S.tk i with at_ := min ((S.tk i).at_ + a.n.toNat) (S.tk i).acts.length }) rfl
    have hf := Rep_fin h3 ((Frm.ext (M := M) hE2).trans ((Frm.ext (Ext.bump (Ext.refl h1.wf) 18)).trans (Frm.set (b := M.ta i) (by rw [h.tko i hi]; simp) _ rfl rfl rfl))) hi
    simp only [upd_same, set_set, hav] at hf
    exact DoPost.ok hf
  · simp (config := { implicitDefEqProofs := false, maxDischargeDepth := 6, maxSteps := 1000000 }) only [go_sem, ↓reduceIte, Nat.reduceLT, Nat.reduceLeDiff, Nat.reduceEqDiff, Nat.reduceAdd, Nat.reduceMul, Nat.reduceSub, Nat.reduceBEq, reduceCtorEq, Int.reduceEq, Int.reduceLT, Int.reduceLE, Int.reduceNeg, Int.reduceToNat, hk, h0, h4, hA, hz, hav, goInt, hwn, hws, hwm, htk1, hr1, hrb, hgb, hrl, htl, hne, hne', hwr, hcell, htb, nv]
    have hd : doA S i a = (adv S i, none) := by simp [doA, hk, hz]
    rw [hd]
    have hf := Rep_fin h1 (Frm.ext (M := M) hE2) hi
    simp only [hav] at hf
    exact DoPost.ok hf

theorem do_11 {H : Heap} {r : Nat} {M : Mem} {S : Sx} (h : Rep H r M S) {i : Nat} (hi : i < S.N) (hat : (S.tk i).at_ < (S.tk i).acts.length) (hlen : (S.tk i).acts.length ≤ 65536) (hV : Valid (S.tk i).acts.length (S.tk i).acts[(S.tk i).at_])
    (hk : (S.tk i).acts[(S.tk i).at_].k = 11) :
   CW Try.prog 46 #[.pointer (some ⟨r, 0, none⟩), nv i, .pointer (some ⟨M.ta i, 0, none⟩)] H (DoPost H r M S (doA S i (S.tk i).acts[(S.tk i).at_])) := by
  refine CW_k (n := 190) if46 rfl ?_
  unfold C46
  have htk := h.task i hi
  have htb := h.tkb i hi
  simp (config := { implicitDefEqProofs := false, maxDischargeDepth := 6, maxSteps := 1000000 }) only [go_sem, ↓reduceIte, Nat.reduceLT, Nat.reduceLeDiff, Nat.reduceEqDiff, Nat.reduceAdd, Nat.reduceMul, Nat.reduceSub, Nat.reduceBEq, reduceCtorEq, Int.reduceEq, Int.reduceLT, Int.reduceLE, Int.reduceNeg, Int.reduceToNat, nv]
  refine CW_mono _ (act_W h.wf htk (h.actsAt hi) hat rfl) ?_
  rintro _ H1 ⟨rfl, hE1⟩
  generalize (S.tk i).acts[(S.tk i).at_] = a at *
  have hE := hE1.alloc (⟨47, 0, false, [.int .i64 0, .int .i64 0, .int .i64 0, .int .i64 0]⟩ : Blk)
  have hE2 := hE.set (b := H1.next) hE1.le (by simp only [next_alloc]; omega) (⟨47, 0, false, a.cells⟩ : Blk)
  have h1 := h.ext hE2
  have hnb := hE1.wf.1
  have hcell : ((H1.alloc (⟨47, 0, false, [.int .i64 0, .int .i64 0, .int .i64 0, .int .i64 0]⟩ : Blk)).set H1.next ⟨47, 0, false, a.cells⟩).get H1.next = some ⟨47, 0, false, a.cells⟩ := get_set_eq hnb
  have hnx : ((H1.alloc (⟨47, 0, false, [.int .i64 0, .int .i64 0, .int .i64 0, .int .i64 0]⟩ : Blk)).set H1.next ⟨47, 0, false, a.cells⟩).next = H1.next + 1 := by simp only [next_set, next_alloc]
  have hon : M.own H1.next = none := by
    have h2 := h.lt H1.next; by_cases e : M.own H1.next = none
    · exact e
    · exact absurd (h2 e) (by have := hE1.le; omega)
  simp (config := { implicitDefEqProofs := false, maxDischargeDepth := 6, maxSteps := 1000000 }) only [go_sem, ↓reduceIte, Nat.reduceLT, Nat.reduceLeDiff, Nat.reduceEqDiff, Nat.reduceAdd, Nat.reduceMul, Nat.reduceSub, Nat.reduceBEq, reduceCtorEq, Int.reduceEq, Int.reduceLT, Int.reduceLE, Int.reduceNeg, Int.reduceToNat, hnb]
  generalize hG : (H1.alloc (⟨47, 0, false, [.int .i64 0, .int .i64 0, .int .i64 0, .int .i64 0]⟩ : Blk)).set H1.next ⟨47, 0, false, a.cells⟩ = G at *
  have htk1 := h1.task i hi
  have hr1 := h1.run
  have hrb := h1.rb
  have hgb := h1.wf.1
  have hrl := h1.lt r (by rw [h1.ro]; simp)
  have htl := h1.lt (M.ta i) (by rw [h1.tko i hi]; simp)
  have hne := h.ne_rt hi
  have hrn : r < H1.next := by have := h.lt r (by rw [h.ro]; simp); have := hE1.le; omega
  have hne' := hne.symm
  have hwr : IntKind.i64.wrap (((S.tk i).at_ : Int) + 1) = (((S.tk i).at_ + 1 : Nat) : Int) := IntWalk.i64_in _ (by omega)
  simp (config := { implicitDefEqProofs := false, maxDischargeDepth := 6, maxSteps := 1000000 }) only [go_sem, ↓reduceIte, Nat.reduceLT, Nat.reduceLeDiff, Nat.reduceEqDiff, Nat.reduceAdd, Nat.reduceMul, Nat.reduceSub, Nat.reduceBEq, reduceCtorEq, Int.reduceEq, Int.reduceLT, Int.reduceLE, Int.reduceNeg, Int.reduceToNat, hk, htk1, hr1, hrb, hgb, hrl, htl, hne, hne', hwr, hcell, htb, nv]
  have hd : doA S i a = (adv S i, none) := by simp [doA, hk]
  rw [hd]
  exact DoPost.ok (Rep_fin h1 (Frm.ext hE2) hi)

theorem do_12 {H : Heap} {r : Nat} {M : Mem} {S : Sx} (h : Rep H r M S) {i : Nat} (hi : i < S.N) (hat : (S.tk i).at_ < (S.tk i).acts.length) (hlen : (S.tk i).acts.length ≤ 65536) (hV : Valid (S.tk i).acts.length (S.tk i).acts[(S.tk i).at_])
    (hk : (S.tk i).acts[(S.tk i).at_].k = 12) :
   CW Try.prog 46 #[.pointer (some ⟨r, 0, none⟩), nv i, .pointer (some ⟨M.ta i, 0, none⟩)] H (DoPost H r M S (doA S i (S.tk i).acts[(S.tk i).at_])) := by
  refine CW_k (n := 190) if46 rfl ?_
  unfold C46
  have htk := h.task i hi
  have htb := h.tkb i hi
  simp (config := { implicitDefEqProofs := false, maxDischargeDepth := 6, maxSteps := 1000000 }) only [go_sem, ↓reduceIte, Nat.reduceLT, Nat.reduceLeDiff, Nat.reduceEqDiff, Nat.reduceAdd, Nat.reduceMul, Nat.reduceSub, Nat.reduceBEq, reduceCtorEq, Int.reduceEq, Int.reduceLT, Int.reduceLE, Int.reduceNeg, Int.reduceToNat, nv]
  refine CW_mono _ (act_W h.wf htk (h.actsAt hi) hat rfl) ?_
  rintro _ H1 ⟨rfl, hE1⟩
  generalize (S.tk i).acts[(S.tk i).at_] = a at *
  have hE := hE1.alloc (⟨47, 0, false, [.int .i64 0, .int .i64 0, .int .i64 0, .int .i64 0]⟩ : Blk)
  have hE2 := hE.set (b := H1.next) hE1.le (by simp only [next_alloc]; omega) (⟨47, 0, false, a.cells⟩ : Blk)
  have h1 := h.ext hE2
  have hnb := hE1.wf.1
  have hcell : ((H1.alloc (⟨47, 0, false, [.int .i64 0, .int .i64 0, .int .i64 0, .int .i64 0]⟩ : Blk)).set H1.next ⟨47, 0, false, a.cells⟩).get H1.next = some ⟨47, 0, false, a.cells⟩ := get_set_eq hnb
  have hnx : ((H1.alloc (⟨47, 0, false, [.int .i64 0, .int .i64 0, .int .i64 0, .int .i64 0]⟩ : Blk)).set H1.next ⟨47, 0, false, a.cells⟩).next = H1.next + 1 := by simp only [next_set, next_alloc]
  have hon : M.own H1.next = none := by
    have h2 := h.lt H1.next; by_cases e : M.own H1.next = none
    · exact e
    · exact absurd (h2 e) (by have := hE1.le; omega)
  simp (config := { implicitDefEqProofs := false, maxDischargeDepth := 6, maxSteps := 1000000 }) only [go_sem, ↓reduceIte, Nat.reduceLT, Nat.reduceLeDiff, Nat.reduceEqDiff, Nat.reduceAdd, Nat.reduceMul, Nat.reduceSub, Nat.reduceBEq, reduceCtorEq, Int.reduceEq, Int.reduceLT, Int.reduceLE, Int.reduceNeg, Int.reduceToNat, hnb]
  generalize hG : (H1.alloc (⟨47, 0, false, [.int .i64 0, .int .i64 0, .int .i64 0, .int .i64 0]⟩ : Blk)).set H1.next ⟨47, 0, false, a.cells⟩ = G at *
  have htk1 := h1.task i hi
  have hr1 := h1.run
  have hrb := h1.rb
  have hgb := h1.wf.1
  have hrl := h1.lt r (by rw [h1.ro]; simp)
  have htl := h1.lt (M.ta i) (by rw [h1.tko i hi]; simp)
  have hne := h.ne_rt hi
  have hrn : r < H1.next := by have := h.lt r (by rw [h.ro]; simp); have := hE1.le; omega
  have hne' := hne.symm
  have hwr : IntKind.i64.wrap (((S.tk i).at_ : Int) + 1) = (((S.tk i).at_ + 1 : Nat) : Int) := IntWalk.i64_in _ (by omega)
  simp (config := { implicitDefEqProofs := false, maxDischargeDepth := 6, maxSteps := 1000000 }) only [go_sem, ↓reduceIte, Nat.reduceLT, Nat.reduceLeDiff, Nat.reduceEqDiff, Nat.reduceAdd, Nat.reduceMul, Nat.reduceSub, Nat.reduceBEq, reduceCtorEq, Int.reduceEq, Int.reduceLT, Int.reduceLE, Int.reduceNeg, Int.reduceToNat, hk, htk1, hr1, hrb, hgb, hrl, htl, hne, hne', hwr, hcell, htb, nv]
  have hd : doA S i a = (S, some a.n) := by simp [doA, hk]
  rw [hd]
  exact DoPost.pan hE2

theorem do_13 {H : Heap} {r : Nat} {M : Mem} {S : Sx} (h : Rep H r M S) {i : Nat} (hi : i < S.N) (hat : (S.tk i).at_ < (S.tk i).acts.length) (hlen : (S.tk i).acts.length ≤ 65536) (hV : Valid (S.tk i).acts.length (S.tk i).acts[(S.tk i).at_])
    (hk : (S.tk i).acts[(S.tk i).at_].k = 13) :
   CW Try.prog 46 #[.pointer (some ⟨r, 0, none⟩), nv i, .pointer (some ⟨M.ta i, 0, none⟩)] H (DoPost H r M S (doA S i (S.tk i).acts[(S.tk i).at_])) := by
  refine CW_k (n := 190) if46 rfl ?_
  unfold C46
  have htk := h.task i hi
  have htb := h.tkb i hi
  simp (config := { implicitDefEqProofs := false, maxDischargeDepth := 6, maxSteps := 1000000 }) only [go_sem, ↓reduceIte, Nat.reduceLT, Nat.reduceLeDiff, Nat.reduceEqDiff, Nat.reduceAdd, Nat.reduceMul, Nat.reduceSub, Nat.reduceBEq, reduceCtorEq, Int.reduceEq, Int.reduceLT, Int.reduceLE, Int.reduceNeg, Int.reduceToNat, nv]
  refine CW_mono _ (act_W h.wf htk (h.actsAt hi) hat rfl) ?_
  rintro _ H1 ⟨rfl, hE1⟩
  generalize (S.tk i).acts[(S.tk i).at_] = a at *
  have hE := hE1.alloc (⟨47, 0, false, [.int .i64 0, .int .i64 0, .int .i64 0, .int .i64 0]⟩ : Blk)
  have hE2 := hE.set (b := H1.next) hE1.le (by simp only [next_alloc]; omega) (⟨47, 0, false, a.cells⟩ : Blk)
  have h1 := h.ext hE2
  have hnb := hE1.wf.1
  have hcell : ((H1.alloc (⟨47, 0, false, [.int .i64 0, .int .i64 0, .int .i64 0, .int .i64 0]⟩ : Blk)).set H1.next ⟨47, 0, false, a.cells⟩).get H1.next = some ⟨47, 0, false, a.cells⟩ := get_set_eq hnb
  have hnx : ((H1.alloc (⟨47, 0, false, [.int .i64 0, .int .i64 0, .int .i64 0, .int .i64 0]⟩ : Blk)).set H1.next ⟨47, 0, false, a.cells⟩).next = H1.next + 1 := by simp only [next_set, next_alloc]
  have hon : M.own H1.next = none := by
    have h2 := h.lt H1.next; by_cases e : M.own H1.next = none
    · exact e
    · exact absurd (h2 e) (by have := hE1.le; omega)
  simp (config := { implicitDefEqProofs := false, maxDischargeDepth := 6, maxSteps := 1000000 }) only [go_sem, ↓reduceIte, Nat.reduceLT, Nat.reduceLeDiff, Nat.reduceEqDiff, Nat.reduceAdd, Nat.reduceMul, Nat.reduceSub, Nat.reduceBEq, reduceCtorEq, Int.reduceEq, Int.reduceLT, Int.reduceLE, Int.reduceNeg, Int.reduceToNat, hnb]
  generalize hG : (H1.alloc (⟨47, 0, false, [.int .i64 0, .int .i64 0, .int .i64 0, .int .i64 0]⟩ : Blk)).set H1.next ⟨47, 0, false, a.cells⟩ = G at *
  have htk1 := h1.task i hi
  have hr1 := h1.run
  have hrb := h1.rb
  have hgb := h1.wf.1
  have hrl := h1.lt r (by rw [h1.ro]; simp)
  have htl := h1.lt (M.ta i) (by rw [h1.tko i hi]; simp)
  have hne := h.ne_rt hi
  have hrn : r < H1.next := by have := h.lt r (by rw [h.ro]; simp); have := hE1.le; omega
  have hne' := hne.symm
  have hwr : IntKind.i64.wrap (((S.tk i).at_ : Int) + 1) = (((S.tk i).at_ + 1 : Nat) : Int) := IntWalk.i64_in _ (by omega)
  obtain ⟨hn0, hn1⟩ := hV.n13 hk
  have hwn : IntKind.i64.wrap a.n = a.n := IntWalk.i64_in _ (by omega)
  simp (config := { implicitDefEqProofs := false, maxDischargeDepth := 6, maxSteps := 1000000 }) only [go_sem, ↓reduceIte, Nat.reduceLT, Nat.reduceLeDiff, Nat.reduceEqDiff, Nat.reduceAdd, Nat.reduceMul, Nat.reduceSub, Nat.reduceBEq, reduceCtorEq, Int.reduceEq, Int.reduceLT, Int.reduceLE, Int.reduceNeg, Int.reduceToNat, hk, hwn, htk1, hr1, hrb, hgb, hrl, htl, hne, hne', hwr, hcell, htb, nv]
  have hd : doA S i a = (adv (setTk S i { S.tk i with guard := a.n }) i, none) := by simp [doA, hk]
  rw [hd]
  have h3 := h1.setTask hi (t := { S.tk i with guard := a.n }) rfl
  have hf := Rep_fin h3 ((Frm.ext (M := M) hE2).trans (Frm.set (b := M.ta i) (by rw [h.tko i hi]; simp) _ rfl rfl rfl)) hi
  simp only [upd_same, set_set] at hf
  exact DoPost.ok hf

theorem wakeAll_tk (l : List Nat) : ∀ (S : Sx) (j : Nat), ((wakeAll S l).tk j).at_ = (S.tk j).at_ ∧ ((wakeAll S l).tk j).acts = (S.tk j).acts := by
  induction l with
  | nil => intro S j; exact ⟨rfl, rfl⟩
  | cons i l ih =>
    intro S j
    have := ih (setTk S i { S.tk i with wait := 2 }) j
    have e : ((setTk S i { S.tk i with wait := 2 }).tk j).at_ = (S.tk j).at_ ∧ ((setTk S i { S.tk i with wait := 2 }).tk j).acts = (S.tk j).acts := by
      by_cases e : j = i
      · subst e; simp [setTk, upd_same]
      · simp [setTk, upd_ne e]
    exact ⟨this.1.trans e.1, this.2.trans e.2⟩

theorem do_4 {H : Heap} {r : Nat} {M : Mem} {S : Sx} (h : Rep H r M S) {i : Nat} (hi : i < S.N) (hat : (S.tk i).at_ < (S.tk i).acts.length) (hlen : (S.tk i).acts.length ≤ 65536) (hV : Valid (S.tk i).acts.length (S.tk i).acts[(S.tk i).at_])
    (hk : (S.tk i).acts[(S.tk i).at_].k = 4) (hci : CI S) (hbd : ∀ j, (S.conds j).length ≤ 1000000) :
   CW Try.prog 46 #[.pointer (some ⟨r, 0, none⟩), nv i, .pointer (some ⟨M.ta i, 0, none⟩)] H (DoPost H r M S (doA S i (S.tk i).acts[(S.tk i).at_])) := by
  refine CW_k (n := 190) if46 rfl ?_
  unfold C46
  have htk := h.task i hi
  have htb := h.tkb i hi
  simp (config := { implicitDefEqProofs := false, maxDischargeDepth := 6, maxSteps := 1000000 }) only [go_sem, ↓reduceIte, Nat.reduceLT, Nat.reduceLeDiff, Nat.reduceEqDiff, Nat.reduceAdd, Nat.reduceMul, Nat.reduceSub, Nat.reduceBEq, reduceCtorEq, Int.reduceEq, Int.reduceLT, Int.reduceLE, Int.reduceNeg, Int.reduceToNat, nv]
  refine CW_mono _ (act_W h.wf htk (h.actsAt hi) hat rfl) ?_
  rintro _ H1 ⟨rfl, hE1⟩
  generalize (S.tk i).acts[(S.tk i).at_] = a at *
  have hE := hE1.alloc (⟨47, 0, false, [.int .i64 0, .int .i64 0, .int .i64 0, .int .i64 0]⟩ : Blk)
  have hE2 := hE.set (b := H1.next) hE1.le (by simp only [next_alloc]; omega) (⟨47, 0, false, a.cells⟩ : Blk)
  have h1 := h.ext hE2
  have hnb := hE1.wf.1
  have hcell : ((H1.alloc (⟨47, 0, false, [.int .i64 0, .int .i64 0, .int .i64 0, .int .i64 0]⟩ : Blk)).set H1.next ⟨47, 0, false, a.cells⟩).get H1.next = some ⟨47, 0, false, a.cells⟩ := get_set_eq hnb
  have hnx : ((H1.alloc (⟨47, 0, false, [.int .i64 0, .int .i64 0, .int .i64 0, .int .i64 0]⟩ : Blk)).set H1.next ⟨47, 0, false, a.cells⟩).next = H1.next + 1 := by simp only [next_set, next_alloc]
  have hon : M.own H1.next = none := by
    have h2 := h.lt H1.next; by_cases e : M.own H1.next = none
    · exact e
    · exact absurd (h2 e) (by have := hE1.le; omega)
  simp (config := { implicitDefEqProofs := false, maxDischargeDepth := 6, maxSteps := 1000000 }) only [go_sem, ↓reduceIte, Nat.reduceLT, Nat.reduceLeDiff, Nat.reduceEqDiff, Nat.reduceAdd, Nat.reduceMul, Nat.reduceSub, Nat.reduceBEq, reduceCtorEq, Int.reduceEq, Int.reduceLT, Int.reduceLE, Int.reduceNeg, Int.reduceToNat, hnb]
  generalize hG : (H1.alloc (⟨47, 0, false, [.int .i64 0, .int .i64 0, .int .i64 0, .int .i64 0]⟩ : Blk)).set H1.next ⟨47, 0, false, a.cells⟩ = G at *
  have htk1 := h1.task i hi
  have hr1 := h1.run
  have hrb := h1.rb
  have hgb := h1.wf.1
  have hrl := h1.lt r (by rw [h1.ro]; simp)
  have htl := h1.lt (M.ta i) (by rw [h1.tko i hi]; simp)
  have hne := h.ne_rt hi
  have hrn : r < H1.next := by have := h.lt r (by rw [h.ro]; simp); have := hE1.le; omega
  have hne' := hne.symm
  have hwr : IntKind.i64.wrap (((S.tk i).at_ : Int) + 1) = (((S.tk i).at_ + 1 : Nat) : Int) := IntWalk.i64_in _ (by omega)
  obtain ⟨h0, h4⟩ := hV.a4 (by omega)
  have hA : a.a.toNat < 4 := by omega
  obtain ⟨ca, cc, hcv⟩ := (h.cond _ hA (by simp)).sl
  have hmin : (if (((S.conds a.a.toNat).length : Nat) : Int) < 1 then (((S.conds a.a.toNat).length : Nat) : Int) else 1) = ((min 1 (S.conds a.a.toNat).length : Nat) : Int) := by split <;> omega
  · simp (config := { implicitDefEqProofs := false, maxDischargeDepth := 6, maxSteps := 1000000 }) only [go_sem, ↓reduceIte, Nat.reduceLT, Nat.reduceLeDiff, Nat.reduceEqDiff, Nat.reduceAdd, Nat.reduceMul, Nat.reduceSub, Nat.reduceBEq, reduceCtorEq, Int.reduceEq, Int.reduceLT, Int.reduceLE, Int.reduceNeg, Int.reduceToNat, hk, h0, h4, hA, hcv, goInt, hmin, htk1, hr1, hrb, hgb, hrl, htl, hne, hne', hwr, hcell, htb, nv]
    refine CW_mono _ (wake_W (h1.ext (Ext.bump (Ext.refl h1.wf) 14)) hci h0 h4 (n := min 1 (S.conds a.a.toNat).length) (by omega) (hbd _)) ?_
    rintro _ H5 ⟨rfl, M5, h5, hF5⟩
    have hi5 : i < (wakeM S a.a.toNat (min 1 (S.conds a.a.toNat).length)).N := by rw [show (wakeM S a.a.toNat (min 1 (S.conds a.a.toNat).length)).N = S.N from (wakeAll_rest _ S).1]; exact hi
    have htk5 := h5.task i hi5
    have hat5 : ((wakeM S a.a.toNat (min 1 (S.conds a.a.toNat).length)).tk i).at_ = (S.tk i).at_ := (wakeAll_tk _ S i).1
    have hta5 := hF5.ta
    have hav5 := hF5.av
    have hb5 := h5.tkb i hi5
    rw [hta5] at htk5 hb5
    simp (config := { implicitDefEqProofs := false, maxDischargeDepth := 6, maxSteps := 1000000 }) only [go_sem, ↓reduceIte, Nat.reduceLT, Nat.reduceLeDiff, Nat.reduceEqDiff, Nat.reduceAdd, Nat.reduceMul, Nat.reduceSub, Nat.reduceBEq, reduceCtorEq, Int.reduceEq, Int.reduceLT, Int.reduceLE, Int.reduceNeg, Int.reduceToNat, htk5, hwr, hb5, hat5, hta5]
    have hd : doA S i a = (adv (wakeM S a.a.toNat (min 1 (S.conds a.a.toNat).length)) i, none) := by simp [doA, hk]
    rw [hd]
    have hf := Rep_fin h5 ((Frm.ext (M := M) (hE2.trans (Ext.bump (Ext.refl h1.wf) 14))).trans hF5) hi5
    simp only [hat5, hta5] at hf
    exact DoPost.ok hf

theorem do_5 {H : Heap} {r : Nat} {M : Mem} {S : Sx} (h : Rep H r M S) {i : Nat} (hi : i < S.N) (hat : (S.tk i).at_ < (S.tk i).acts.length) (hlen : (S.tk i).acts.length ≤ 65536) (hV : Valid (S.tk i).acts.length (S.tk i).acts[(S.tk i).at_])
    (hk : (S.tk i).acts[(S.tk i).at_].k = 5) (hci : CI S) (hbd : ∀ j, (S.conds j).length ≤ 1000000) :
   CW Try.prog 46 #[.pointer (some ⟨r, 0, none⟩), nv i, .pointer (some ⟨M.ta i, 0, none⟩)] H (DoPost H r M S (doA S i (S.tk i).acts[(S.tk i).at_])) := by
  refine CW_k (n := 190) if46 rfl ?_
  unfold C46
  have htk := h.task i hi
  have htb := h.tkb i hi
  simp (config := { implicitDefEqProofs := false, maxDischargeDepth := 6, maxSteps := 1000000 }) only [go_sem, ↓reduceIte, Nat.reduceLT, Nat.reduceLeDiff, Nat.reduceEqDiff, Nat.reduceAdd, Nat.reduceMul, Nat.reduceSub, Nat.reduceBEq, reduceCtorEq, Int.reduceEq, Int.reduceLT, Int.reduceLE, Int.reduceNeg, Int.reduceToNat, nv]
  refine CW_mono _ (act_W h.wf htk (h.actsAt hi) hat rfl) ?_
  rintro _ H1 ⟨rfl, hE1⟩
  generalize (S.tk i).acts[(S.tk i).at_] = a at *
  have hE := hE1.alloc (⟨47, 0, false, [.int .i64 0, .int .i64 0, .int .i64 0, .int .i64 0]⟩ : Blk)
  have hE2 := hE.set (b := H1.next) hE1.le (by simp only [next_alloc]; omega) (⟨47, 0, false, a.cells⟩ : Blk)
  have h1 := h.ext hE2
  have hnb := hE1.wf.1
  have hcell : ((H1.alloc (⟨47, 0, false, [.int .i64 0, .int .i64 0, .int .i64 0, .int .i64 0]⟩ : Blk)).set H1.next ⟨47, 0, false, a.cells⟩).get H1.next = some ⟨47, 0, false, a.cells⟩ := get_set_eq hnb
  have hnx : ((H1.alloc (⟨47, 0, false, [.int .i64 0, .int .i64 0, .int .i64 0, .int .i64 0]⟩ : Blk)).set H1.next ⟨47, 0, false, a.cells⟩).next = H1.next + 1 := by simp only [next_set, next_alloc]
  have hon : M.own H1.next = none := by
    have h2 := h.lt H1.next; by_cases e : M.own H1.next = none
    · exact e
    · exact absurd (h2 e) (by have := hE1.le; omega)
  simp (config := { implicitDefEqProofs := false, maxDischargeDepth := 6, maxSteps := 1000000 }) only [go_sem, ↓reduceIte, Nat.reduceLT, Nat.reduceLeDiff, Nat.reduceEqDiff, Nat.reduceAdd, Nat.reduceMul, Nat.reduceSub, Nat.reduceBEq, reduceCtorEq, Int.reduceEq, Int.reduceLT, Int.reduceLE, Int.reduceNeg, Int.reduceToNat, hnb]
  generalize hG : (H1.alloc (⟨47, 0, false, [.int .i64 0, .int .i64 0, .int .i64 0, .int .i64 0]⟩ : Blk)).set H1.next ⟨47, 0, false, a.cells⟩ = G at *
  have htk1 := h1.task i hi
  have hr1 := h1.run
  have hrb := h1.rb
  have hgb := h1.wf.1
  have hrl := h1.lt r (by rw [h1.ro]; simp)
  have htl := h1.lt (M.ta i) (by rw [h1.tko i hi]; simp)
  have hne := h.ne_rt hi
  have hrn : r < H1.next := by have := h.lt r (by rw [h.ro]; simp); have := hE1.le; omega
  have hne' := hne.symm
  have hwr : IntKind.i64.wrap (((S.tk i).at_ : Int) + 1) = (((S.tk i).at_ + 1 : Nat) : Int) := IntWalk.i64_in _ (by omega)
  obtain ⟨h0, h4⟩ := hV.a4 (by omega)
  have hA : a.a.toNat < 4 := by omega
  obtain ⟨ca, cc, hcv⟩ := (h.cond _ hA (by simp)).sl
  · simp (config := { implicitDefEqProofs := false, maxDischargeDepth := 6, maxSteps := 1000000 }) only [go_sem, ↓reduceIte, Nat.reduceLT, Nat.reduceLeDiff, Nat.reduceEqDiff, Nat.reduceAdd, Nat.reduceMul, Nat.reduceSub, Nat.reduceBEq, reduceCtorEq, Int.reduceEq, Int.reduceLT, Int.reduceLE, Int.reduceNeg, Int.reduceToNat, hk, h0, h4, hA, hcv, goInt, htk1, hr1, hrb, hgb, hrl, htl, hne, hne', hwr, hcell, htb, nv]
    refine CW_mono _ (wake_W (h1.ext (Ext.bump (Ext.refl h1.wf) 13)) hci h0 h4 (n := (S.conds a.a.toNat).length) (by omega) (hbd _)) ?_
    rintro _ H5 ⟨rfl, M5, h5, hF5⟩
    have hi5 : i < (wakeM S a.a.toNat (S.conds a.a.toNat).length).N := by rw [show (wakeM S a.a.toNat (S.conds a.a.toNat).length).N = S.N from (wakeAll_rest _ S).1]; exact hi
    have htk5 := h5.task i hi5
    have hat5 : ((wakeM S a.a.toNat (S.conds a.a.toNat).length).tk i).at_ = (S.tk i).at_ := (wakeAll_tk _ S i).1
    have hta5 := hF5.ta
    have hav5 := hF5.av
    have hb5 := h5.tkb i hi5
    rw [hta5] at htk5 hb5
    simp (config := { implicitDefEqProofs := false, maxDischargeDepth := 6, maxSteps := 1000000 }) only [go_sem, ↓reduceIte, Nat.reduceLT, Nat.reduceLeDiff, Nat.reduceEqDiff, Nat.reduceAdd, Nat.reduceMul, Nat.reduceSub, Nat.reduceBEq, reduceCtorEq, Int.reduceEq, Int.reduceLT, Int.reduceLE, Int.reduceNeg, Int.reduceToNat, htk5, hwr, hb5, hat5, hta5]
    have hd : doA S i a = (adv (wakeM S a.a.toNat (S.conds a.a.toNat).length) i, none) := by simp [doA, hk]
    rw [hd]
    have hf := Rep_fin h5 ((Frm.ext (M := M) (hE2.trans (Ext.bump (Ext.refl h1.wf) 13))).trans hF5) hi5
    simp only [hat5, hta5] at hf
    exact DoPost.ok hf

theorem do_3 {H : Heap} {r : Nat} {M : Mem} {S : Sx} (h : Rep H r M S) {i : Nat} (hi : i < S.N) (hat : (S.tk i).at_ < (S.tk i).acts.length) (hlen : (S.tk i).acts.length ≤ 65536) (hV : Valid (S.tk i).acts.length (S.tk i).acts[(S.tk i).at_])
    (hk : (S.tk i).acts[(S.tk i).at_].k = 3) (hbd : ∀ j, (S.conds j).length ≤ 1000000) :
   CW Try.prog 46 #[.pointer (some ⟨r, 0, none⟩), nv i, .pointer (some ⟨M.ta i, 0, none⟩)] H (DoPost H r M S (doA S i (S.tk i).acts[(S.tk i).at_])) := by
  refine CW_k (n := 190) if46 rfl ?_
  unfold C46
  have htk := h.task i hi
  have htb := h.tkb i hi
  simp (config := { implicitDefEqProofs := false, maxDischargeDepth := 6, maxSteps := 1000000 }) only [go_sem, ↓reduceIte, Nat.reduceLT, Nat.reduceLeDiff, Nat.reduceEqDiff, Nat.reduceAdd, Nat.reduceMul, Nat.reduceSub, Nat.reduceBEq, reduceCtorEq, Int.reduceEq, Int.reduceLT, Int.reduceLE, Int.reduceNeg, Int.reduceToNat, nv]
  refine CW_mono _ (act_W h.wf htk (h.actsAt hi) hat rfl) ?_
  rintro _ H1 ⟨rfl, hE1⟩
  generalize (S.tk i).acts[(S.tk i).at_] = a at *
  have hE := hE1.alloc (⟨47, 0, false, [.int .i64 0, .int .i64 0, .int .i64 0, .int .i64 0]⟩ : Blk)
  have hE2 := hE.set (b := H1.next) hE1.le (by simp only [next_alloc]; omega) (⟨47, 0, false, a.cells⟩ : Blk)
  have h1 := h.ext hE2
  have hnb := hE1.wf.1
  have hcell : ((H1.alloc (⟨47, 0, false, [.int .i64 0, .int .i64 0, .int .i64 0, .int .i64 0]⟩ : Blk)).set H1.next ⟨47, 0, false, a.cells⟩).get H1.next = some ⟨47, 0, false, a.cells⟩ := get_set_eq hnb
  have hnx : ((H1.alloc (⟨47, 0, false, [.int .i64 0, .int .i64 0, .int .i64 0, .int .i64 0]⟩ : Blk)).set H1.next ⟨47, 0, false, a.cells⟩).next = H1.next + 1 := by simp only [next_set, next_alloc]
  have hon : M.own H1.next = none := by
    have h2 := h.lt H1.next; by_cases e : M.own H1.next = none
    · exact e
    · exact absurd (h2 e) (by have := hE1.le; omega)
  simp (config := { implicitDefEqProofs := false, maxDischargeDepth := 6, maxSteps := 1000000 }) only [go_sem, ↓reduceIte, Nat.reduceLT, Nat.reduceLeDiff, Nat.reduceEqDiff, Nat.reduceAdd, Nat.reduceMul, Nat.reduceSub, Nat.reduceBEq, reduceCtorEq, Int.reduceEq, Int.reduceLT, Int.reduceLE, Int.reduceNeg, Int.reduceToNat, hnb]
  generalize hG : (H1.alloc (⟨47, 0, false, [.int .i64 0, .int .i64 0, .int .i64 0, .int .i64 0]⟩ : Blk)).set H1.next ⟨47, 0, false, a.cells⟩ = G at *
  have htk1 := h1.task i hi
  have hr1 := h1.run
  have hrb := h1.rb
  have hgb := h1.wf.1
  have hrl := h1.lt r (by rw [h1.ro]; simp)
  have htl := h1.lt (M.ta i) (by rw [h1.tko i hi]; simp)
  have hne := h.ne_rt hi
  have hrn : r < H1.next := by have := h.lt r (by rw [h.ro]; simp); have := hE1.le; omega
  have hne' := hne.symm
  have hwr : IntKind.i64.wrap (((S.tk i).at_ : Int) + 1) = (((S.tk i).at_ + 1 : Nat) : Int) := IntWalk.i64_in _ (by omega)
  obtain ⟨h0, h4⟩ := hV.a4 (by omega)
  obtain ⟨h0b, h4b⟩ := hV.b4 hk
  by_cases hw : (S.tk i).wait = 0
  · simp (config := { implicitDefEqProofs := false, maxDischargeDepth := 6, maxSteps := 1000000 }) only [go_sem, ↓reduceIte, Nat.reduceLT, Nat.reduceLeDiff, Nat.reduceEqDiff, Nat.reduceAdd, Nat.reduceMul, Nat.reduceSub, Nat.reduceBEq, reduceCtorEq, Int.reduceEq, Int.reduceLT, Int.reduceLE, Int.reduceNeg, Int.reduceToNat, hk, loads_eq, htk1, hr1, hrb, hgb, hrl, htl, hne, hne', hwr, hcell, htb, nv]
    refine CW_mono _ (wait0_W h1 hi h0b h4b h0 h4 hw (hbd _)) ?_
    by_cases hl : S.locks a.b.toNat = i
    · rintro x H' hx
      rw [if_pos hl] at hx
      obtain ⟨rfl, M5, h5, hF5⟩ := hx
      simp (config := { implicitDefEqProofs := false, maxDischargeDepth := 6, maxSteps := 1000000 }) only [go_sem, ↓reduceIte, Nat.reduceLT, Nat.reduceLeDiff, Nat.reduceEqDiff, Nat.reduceAdd, Nat.reduceMul, Nat.reduceSub, Nat.reduceBEq, reduceCtorEq, Int.reduceEq, Int.reduceLT, Int.reduceLE, Int.reduceNeg, Int.reduceToNat, htk1, hr1, hrb, hgb, hrl, htl, hne, hne', hwr, hcell, htb, nv]
      have hd : doA S i a = (waitS0 S i a, none) := by simp [doA, hk, hw, hl]
      rw [hd]
      exact DoPost.ok ⟨M5, h5, (Frm.ext hE2).trans hF5⟩
    · rintro x H' hx
      rw [if_neg hl] at hx
      obtain ⟨rfl, hE5⟩ := hx
      simp (config := { implicitDefEqProofs := false, maxDischargeDepth := 6, maxSteps := 1000000 }) only [go_sem, ↓reduceIte, Nat.reduceLT, Nat.reduceLeDiff, Nat.reduceEqDiff, Nat.reduceAdd, Nat.reduceMul, Nat.reduceSub, Nat.reduceBEq, reduceCtorEq, Int.reduceEq, Int.reduceLT, Int.reduceLE, Int.reduceNeg, Int.reduceToNat, htk1, hr1, hrb, hgb, hrl, htl, hne, hne', hwr, hcell, htb, nv]
      have hd : doA S i a = (S, some (-1)) := by simp [doA, hk, hw, hl]
      rw [hd]
      exact DoPost.pan (hE2.trans hE5)
  · simp (config := { implicitDefEqProofs := false, maxDischargeDepth := 6, maxSteps := 1000000 }) only [go_sem, ↓reduceIte, Nat.reduceLT, Nat.reduceLeDiff, Nat.reduceEqDiff, Nat.reduceAdd, Nat.reduceMul, Nat.reduceSub, Nat.reduceBEq, reduceCtorEq, Int.reduceEq, Int.reduceLT, Int.reduceLE, Int.reduceNeg, Int.reduceToNat, hk, loads_eq, htk1, hr1, hrb, hgb, hrl, htl, hne, hne', hwr, hcell, htb, nv]
    refine CW_mono _ (wait2_W h1 hi h0b h4b hw) ?_
    rintro _ H5 ⟨rfl, M5, h5, hF5⟩
    have hi5 : i < (waitS2 S i a).N := hi
    have htk5 := h5.task i hi5
    have hat5 : ((waitS2 S i a).tk i).at_ = (S.tk i).at_ := by simp [waitS2, setTk, upd_same]
    have hta5 := hF5.ta
    have hb5 := h5.tkb i hi5
    rw [hta5] at htk5 hb5
    simp (config := { implicitDefEqProofs := false, maxDischargeDepth := 6, maxSteps := 1000000 }) only [go_sem, ↓reduceIte, Nat.reduceLT, Nat.reduceLeDiff, Nat.reduceEqDiff, Nat.reduceAdd, Nat.reduceMul, Nat.reduceSub, Nat.reduceBEq, reduceCtorEq, Int.reduceEq, Int.reduceLT, Int.reduceLE, Int.reduceNeg, Int.reduceToNat, htk5, hwr, hb5, hat5, hta5]
    have hd : doA S i a = (adv (waitS2 S i a) i, none) := by simp [doA, hk, hw]
    rw [hd]
    have hf := Rep_fin h5 ((Frm.ext (M := M) hE2).trans hF5) hi5
    simp only [hat5, hta5] at hf
    exact DoPost.ok hf

theorem do_6 {H : Heap} {r : Nat} {M : Mem} {S : Sx} (h : Rep H r M S) {i : Nat} (hi : i < S.N) (hat : (S.tk i).at_ < (S.tk i).acts.length) (hlen : (S.tk i).acts.length ≤ 65536) (hV : Valid (S.tk i).acts.length (S.tk i).acts[(S.tk i).at_])
    (hk : (S.tk i).acts[(S.tk i).at_].k = 6) (hbd : ∀ j, (S.queues j).length ≤ 1000000) :
   CW Try.prog 46 #[.pointer (some ⟨r, 0, none⟩), nv i, .pointer (some ⟨M.ta i, 0, none⟩)] H (DoPost H r M S (doA S i (S.tk i).acts[(S.tk i).at_])) := by
  refine CW_k (n := 190) if46 rfl ?_
  unfold C46
  have htk := h.task i hi
  have htb := h.tkb i hi
  simp (config := { implicitDefEqProofs := false, maxDischargeDepth := 6, maxSteps := 1000000 }) only [go_sem, ↓reduceIte, Nat.reduceLT, Nat.reduceLeDiff, Nat.reduceEqDiff, Nat.reduceAdd, Nat.reduceMul, Nat.reduceSub, Nat.reduceBEq, reduceCtorEq, Int.reduceEq, Int.reduceLT, Int.reduceLE, Int.reduceNeg, Int.reduceToNat, nv]
  refine CW_mono _ (act_W h.wf htk (h.actsAt hi) hat rfl) ?_
  rintro _ H1 ⟨rfl, hE1⟩
  generalize (S.tk i).acts[(S.tk i).at_] = a at *
  have hE := hE1.alloc (⟨47, 0, false, [.int .i64 0, .int .i64 0, .int .i64 0, .int .i64 0]⟩ : Blk)
  have hE2 := hE.set (b := H1.next) hE1.le (by simp only [next_alloc]; omega) (⟨47, 0, false, a.cells⟩ : Blk)
  have h1 := h.ext hE2
  have hnb := hE1.wf.1
  have hcell : ((H1.alloc (⟨47, 0, false, [.int .i64 0, .int .i64 0, .int .i64 0, .int .i64 0]⟩ : Blk)).set H1.next ⟨47, 0, false, a.cells⟩).get H1.next = some ⟨47, 0, false, a.cells⟩ := get_set_eq hnb
  have hnx : ((H1.alloc (⟨47, 0, false, [.int .i64 0, .int .i64 0, .int .i64 0, .int .i64 0]⟩ : Blk)).set H1.next ⟨47, 0, false, a.cells⟩).next = H1.next + 1 := by simp only [next_set, next_alloc]
  have hon : M.own H1.next = none := by
    have h2 := h.lt H1.next; by_cases e : M.own H1.next = none
    · exact e
    · exact absurd (h2 e) (by have := hE1.le; omega)
  simp (config := { implicitDefEqProofs := false, maxDischargeDepth := 6, maxSteps := 1000000 }) only [go_sem, ↓reduceIte, Nat.reduceLT, Nat.reduceLeDiff, Nat.reduceEqDiff, Nat.reduceAdd, Nat.reduceMul, Nat.reduceSub, Nat.reduceBEq, reduceCtorEq, Int.reduceEq, Int.reduceLT, Int.reduceLE, Int.reduceNeg, Int.reduceToNat, hnb]
  generalize hG : (H1.alloc (⟨47, 0, false, [.int .i64 0, .int .i64 0, .int .i64 0, .int .i64 0]⟩ : Blk)).set H1.next ⟨47, 0, false, a.cells⟩ = G at *
  have htk1 := h1.task i hi
  have hr1 := h1.run
  have hrb := h1.rb
  have hgb := h1.wf.1
  have hrl := h1.lt r (by rw [h1.ro]; simp)
  have htl := h1.lt (M.ta i) (by rw [h1.tko i hi]; simp)
  have hne := h.ne_rt hi
  have hrn : r < H1.next := by have := h.lt r (by rw [h.ro]; simp); have := hE1.le; omega
  have hne' := hne.symm
  have hwr : IntKind.i64.wrap (((S.tk i).at_ : Int) + 1) = (((S.tk i).at_ + 1 : Nat) : Int) := IntWalk.i64_in _ (by omega)
  obtain ⟨h0, h4⟩ := hV.a4 (by omega)
  have hA : a.a.toNat < 4 := by omega
  obtain ⟨qa, qc, hqv⟩ := (h.queue _ hA (by simp)).sl
  simp (config := { implicitDefEqProofs := false, maxDischargeDepth := 6, maxSteps := 1000000 }) only [go_sem, ↓reduceIte, Nat.reduceLT, Nat.reduceLeDiff, Nat.reduceEqDiff, Nat.reduceAdd, Nat.reduceMul, Nat.reduceSub, Nat.reduceBEq, reduceCtorEq, Int.reduceEq, Int.reduceLT, Int.reduceLE, Int.reduceNeg, Int.reduceToNat, hk, h0, h4, hA, hqv, hnx, htk1, hr1, hrb, hgb, hrl, htl, hne, hne', hwr, hcell, htb, nv]
  refine Wk_w_c rfl rfl ?_
  simp (config := { implicitDefEqProofs := false, maxDischargeDepth := 6, maxSteps := 1000000 }) only [go_sem, ↓reduceIte, Nat.reduceLT, Nat.reduceLeDiff, Nat.reduceEqDiff, Nat.reduceAdd, Nat.reduceMul, Nat.reduceSub, Nat.reduceBEq, reduceCtorEq, Int.reduceEq, Int.reduceLT, Int.reduceLE, Int.reduceNeg, Int.reduceToNat, hk, h0, h4, hA, hqv, hnx, htk1, hr1, hrb, hgb, hrl, htl, hne, hne', hwr, hcell, htb, nv]
  have h5 := h1.ext ((Ext.bump (Ext.refl h1.wf) 19).set (b := H1.next + 1 + 12) (by omega) (by simp only [next_bump]; omega) ⟨2, 0, false, [iv a.n]⟩)
  have hOq := h5.queue _ hA (by simp)
  rw [hqv] at hOq
  obtain ⟨H6, ha6, h6, hO6, hF6, hn6, hk6⟩ := h5.append (.queue a.a.toNat) (by simp) (by simp) (by simp) (bytes := 8) (nb := H1.next + 1 + 12) (x := ⟨2, 0, false, [iv a.n]⟩) (vs := [iv a.n]) hOq (get_set_eq (by omega)) rfl rfl (by omega) rfl (by have := hbd a.a.toNat; omega) (by have := hbd a.a.toNat; omega)
  simp only [next_bump, next_set, hnx] at ha6 h6 hO6 hF6 hn6
  refine cK_vh ha6 ?_
  have hr6 := h6.run
  have htk6 := h6.task i hi
  have hcell6 := hk6 H1.next ⟨47, 0, false, a.cells⟩ (by simp (config := { implicitDefEqProofs := false, maxDischargeDepth := 6, maxSteps := 1000000 }) only [go_sem, ↓reduceIte, Nat.reduceLT, Nat.reduceLeDiff, Nat.reduceEqDiff, Nat.reduceAdd, Nat.reduceMul, Nat.reduceSub, Nat.reduceBEq, reduceCtorEq, Int.reduceEq, Int.reduceLT, Int.reduceLE, Int.reduceNeg, Int.reduceToNat, hnb, hcell, hnx]) hon
  have hn6' := h6.wf.1
  simp (config := { implicitDefEqProofs := false, maxDischargeDepth := 6, maxSteps := 1000000 }) only [go_sem, ↓reduceIte, Nat.reduceLT, Nat.reduceLeDiff, Nat.reduceEqDiff, Nat.reduceAdd, Nat.reduceMul, Nat.reduceSub, Nat.reduceBEq, reduceCtorEq, Int.reduceEq, Int.reduceLT, Int.reduceLE, Int.reduceNeg, Int.reduceToNat, hr6, hcell6, hn6']
  refine cK_some ?_ ?_
  · simp (config := { implicitDefEqProofs := false, maxDischargeDepth := 6, maxSteps := 1000000 }) only [go_sem, ↓reduceIte, Nat.reduceLT, Nat.reduceLeDiff, Nat.reduceEqDiff, Nat.reduceAdd, Nat.reduceMul, Nat.reduceSub, Nat.reduceBEq, reduceCtorEq, Int.reduceEq, Int.reduceLT, Int.reduceLE, Int.reduceNeg, Int.reduceToNat, reK, hcell6]
  · simp (config := { implicitDefEqProofs := false, maxDischargeDepth := 6, maxSteps := 1000000 }) only [go_sem, ↓reduceIte, Nat.reduceLT, Nat.reduceLeDiff, Nat.reduceEqDiff, Nat.reduceAdd, Nat.reduceMul, Nat.reduceSub, Nat.reduceBEq, reduceCtorEq, Int.reduceEq, Int.reduceLT, Int.reduceLE, Int.reduceNeg, Int.reduceToNat, hr6, hcell6, hn6', h0, h4, hA, hrb]
    refine Wk_w_c rfl rfl ?_
    simp (config := { implicitDefEqProofs := false, maxDischargeDepth := 6, maxSteps := 1000000 }) only [go_sem, ↓reduceIte, Nat.reduceLT, Nat.reduceLeDiff, Nat.reduceEqDiff, Nat.reduceAdd, Nat.reduceMul, Nat.reduceSub, Nat.reduceBEq, reduceCtorEq, Int.reduceEq, Int.reduceLT, Int.reduceLE, Int.reduceNeg, Int.reduceToNat, hr6, hcell6, hn6', h0, h4, hA, hrb, htk6, htb, hne, hne', hwr]
    have hd : doA S i a = (adv { S with queues := upd S.queues a.a.toNat (S.queues a.a.toNat ++ [a.n]) } i, none) := by simp [doA, hk]
    rw [hd]
    have h7 := h6.setRun (M' := { M with own := upd M.own (H1.next + 1 + 19) (some (.queue a.a.toNat)), qv := upd M.qv a.a.toNat (.slice (some ⟨H1.next + 1 + 19, 0, none⟩) ((S.queues a.a.toNat).length + 1) openCap) })
      (S' := { S with queues := upd S.queues a.a.toNat (S.queues a.a.toNat ++ [a.n]) }) rfl rfl rfl rfl rfl rfl (fun j hj => h6.cond j hj (by simp)) ?_ (h6.trace (by simp))
    · refine DoPost.ok (Rep_fin h7 ((((Frm.ext (M := M) hE2).trans (Frm.ext (M := M) ((Ext.bump (Ext.refl h1.wf) 19).set (b := H1.next + 1 + 12) (by omega) (by simp only [next_bump]; omega) ⟨2, 0, false, [iv a.n]⟩))).trans hF6).trans (Frm.set (by rw [h6.ro]; simp) _ rfl rfl rfl)) hi)
    · intro j hj
      by_cases e : j = a.a.toNat
      · subst e
        simp only [upd_same, List.length_append, List.map_append]
        exact hO6
      · simp only [upd_ne e]
        exact h6.queue j hj (by simp; exact fun x => e x.symm)

theorem do_7 {H : Heap} {r : Nat} {M : Mem} {S : Sx} (h : Rep H r M S) {i : Nat} (hi : i < S.N) (hat : (S.tk i).at_ < (S.tk i).acts.length) (hlen : (S.tk i).acts.length ≤ 65536) (hV : Valid (S.tk i).acts.length (S.tk i).acts[(S.tk i).at_])
    (hk : (S.tk i).acts[(S.tk i).at_].k = 7) (hq0 : S.queues (S.tk i).acts[(S.tk i).at_].a.toNat ≠ []) :
   CW Try.prog 46 #[.pointer (some ⟨r, 0, none⟩), nv i, .pointer (some ⟨M.ta i, 0, none⟩)] H (DoPost H r M S (doA S i (S.tk i).acts[(S.tk i).at_])) := by
  refine CW_k (n := 190) if46 rfl ?_
  unfold C46
  have htk := h.task i hi
  have htb := h.tkb i hi
  simp (config := { implicitDefEqProofs := false, maxDischargeDepth := 6, maxSteps := 1000000 }) only [go_sem, ↓reduceIte, Nat.reduceLT, Nat.reduceLeDiff, Nat.reduceEqDiff, Nat.reduceAdd, Nat.reduceMul, Nat.reduceSub, Nat.reduceBEq, reduceCtorEq, Int.reduceEq, Int.reduceLT, Int.reduceLE, Int.reduceNeg, Int.reduceToNat, nv]
  refine CW_mono _ (act_W h.wf htk (h.actsAt hi) hat rfl) ?_
  rintro _ H1 ⟨rfl, hE1⟩
  generalize (S.tk i).acts[(S.tk i).at_] = a at *
  have hE := hE1.alloc (⟨47, 0, false, [.int .i64 0, .int .i64 0, .int .i64 0, .int .i64 0]⟩ : Blk)
  have hE2 := hE.set (b := H1.next) hE1.le (by simp only [next_alloc]; omega) (⟨47, 0, false, a.cells⟩ : Blk)
  have h1 := h.ext hE2
  have hnb := hE1.wf.1
  have hcell : ((H1.alloc (⟨47, 0, false, [.int .i64 0, .int .i64 0, .int .i64 0, .int .i64 0]⟩ : Blk)).set H1.next ⟨47, 0, false, a.cells⟩).get H1.next = some ⟨47, 0, false, a.cells⟩ := get_set_eq hnb
  have hnx : ((H1.alloc (⟨47, 0, false, [.int .i64 0, .int .i64 0, .int .i64 0, .int .i64 0]⟩ : Blk)).set H1.next ⟨47, 0, false, a.cells⟩).next = H1.next + 1 := by simp only [next_set, next_alloc]
  have hon : M.own H1.next = none := by
    have h2 := h.lt H1.next; by_cases e : M.own H1.next = none
    · exact e
    · exact absurd (h2 e) (by have := hE1.le; omega)
  simp (config := { implicitDefEqProofs := false, maxDischargeDepth := 6, maxSteps := 1000000 }) only [go_sem, ↓reduceIte, Nat.reduceLT, Nat.reduceLeDiff, Nat.reduceEqDiff, Nat.reduceAdd, Nat.reduceMul, Nat.reduceSub, Nat.reduceBEq, reduceCtorEq, Int.reduceEq, Int.reduceLT, Int.reduceLE, Int.reduceNeg, Int.reduceToNat, hnb]
  generalize hG : (H1.alloc (⟨47, 0, false, [.int .i64 0, .int .i64 0, .int .i64 0, .int .i64 0]⟩ : Blk)).set H1.next ⟨47, 0, false, a.cells⟩ = G at *
  have htk1 := h1.task i hi
  have hr1 := h1.run
  have hrb := h1.rb
  have hgb := h1.wf.1
  have hrl := h1.lt r (by rw [h1.ro]; simp)
  have htl := h1.lt (M.ta i) (by rw [h1.tko i hi]; simp)
  have hne := h.ne_rt hi
  have hrn : r < H1.next := by have := h.lt r (by rw [h.ro]; simp); have := hE1.le; omega
  have hne' := hne.symm
  have hwr : IntKind.i64.wrap (((S.tk i).at_ : Int) + 1) = (((S.tk i).at_ + 1 : Nat) : Int) := IntWalk.i64_in _ (by omega)
  obtain ⟨h0, h4⟩ := hV.a4 (by omega)
  obtain ⟨h0b, h4b⟩ := hV.b8 (by omega)
  have hA : a.a.toNat < 4 := by omega
  have hB : a.b.toNat < 8 := by omega
  obtain ⟨q0, qs, hq⟩ := List.exists_cons_of_ne_nil hq0
  have hO := h1.queue _ hA (by simp)
  rw [hq] at hO
  obtain ⟨b, o, c, x, hqv, hc, hx, hxo⟩ := hO.rd.at_ (i := 0) (by simp)
  simp only [List.getElem_map, List.getElem_cons_zero, iv, Nat.add_zero, List.length_map] at hxo hqv
  obtain ⟨hR, hF⟩ := Rep_run h1 17 (S1 := { S with regs := upd S.regs a.b.toNat q0 }) rfl rfl rfl rfl rfl
  have hO2 := hR.queue _ hA (by simp)
  simp only [hq, hqv] at hO2
  obtain ⟨v', hv', hO3⟩ := sliceS_post (k := 1) hO2 (by omega) (by simp)
  rw [show ((1 : Nat) : Int) = 1 from rfl] at hv'
  simp only [List.length_cons] at hv' hqv
  obtain ⟨a', c', rfl⟩ := hO3.sl
  have hln : (0 : Int) < (((qs.length + 1 : Nat)) : Int) := by omega
  simp (config := { implicitDefEqProofs := false, maxDischargeDepth := 6, maxSteps := 1000000 }) only [go_sem, ↓reduceIte, Nat.reduceLT, Nat.reduceLeDiff, Nat.reduceEqDiff, Nat.reduceAdd, Nat.reduceMul, Nat.reduceSub, Nat.reduceBEq, reduceCtorEq, Int.reduceEq, Int.reduceLT, Int.reduceLE, Int.reduceNeg, Int.reduceToNat, hk, h0, h4, hA, hB, h0b, h4b, hqv, hc, hx, hxo, Nat.add_zero, hln, hv', hrn, htk1, hr1, hrb, hgb, hrl, htl, hne, hne', hwr, hcell, htb, nv]
  have hd : doA S i a = (adv { S with regs := upd S.regs a.b.toNat q0, queues := upd S.queues a.a.toNat qs } i, none) := by simp [doA, hk, hq]
  rw [hd]
  have h5 := hR.ext (Ext.bump (Ext.refl hR.wf) 16)
  have h7 := h5.setRun (M' := { M with qv := upd M.qv a.a.toNat (.slice a' (qs.length + 1 - 1) c') }) (S' := { S with regs := upd S.regs a.b.toNat q0, queues := upd S.queues a.a.toNat qs }) rfl rfl rfl rfl rfl rfl (fun j hj => h5.cond j hj (by simp)) ?_ (h5.trace (by simp))
  · refine DoPost.ok (Rep_fin h7 ((((Frm.ext (M := M) hE2).trans hF).trans (Frm.ext (Ext.bump (Ext.refl hR.wf) 16))).trans (Frm.set (by rw [h5.ro]; simp) _ rfl rfl rfl)) hi)
  · intro j hj
    by_cases e : j = a.a.toNat
    · subst e
      simp only [upd_same]
      exact hO3
    · simp only [upd_ne e]
      exact h5.queue j hj (by simp)

end Go.Am.T
