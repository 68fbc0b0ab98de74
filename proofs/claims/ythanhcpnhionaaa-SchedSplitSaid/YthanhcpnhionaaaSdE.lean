/- The walks of the scheduler's functions: wake, wait. Conditions: those of each theorem. -/
import Derived.Test.YthanhcpnhionaaaSdD
set_option linter.all false
set_option linter.unusedSimpArgs false
set_option linter.unusedVariables false
namespace Go.Am.T
open Go Go.Am Go.Proofs.Ythanhcpnhionaaa Go.Proofs

theorem sliceS_pre {p : Nat → Prop} {H : Heap} {es ty : Nat} {a : Option Addr} {n c k : Nat} {cs : List Value} (h : OwnL p H es ty (.slice a n c) n cs) (h0 : es ≠ 0) (hk : k ≤ n) :
    sliceS H es a n c none (some (.int .i64 (k : Int))) none = some (.slice a k c) := by
  have hb : boundA (some (.int .i64 (k : Int))) n n = some k := by simp [boundA]; omega
  rcases h with ⟨h1, h2, h3⟩ | ⟨b, o, pre, h1, h2, h3, h4, h5, h6⟩
  · simp only [Value.slice.injEq] at h1
    obtain ⟨rfl, rfl, rfl⟩ := h1
    obtain rfl : k = 0 := by omega
    unfold sliceS
    rw [if_neg (by unfold openCap; omega)]
    simp [boundA]
  · simp only [Value.slice.injEq] at h1
    obtain ⟨rfl, _, rfl⟩ := h1
    unfold sliceS
    rw [if_pos rfl]
    have e : ((pre ++ cs).length - o) / es = n := by
      rw [List.length_append, h5, h6, Nat.add_sub_cancel_left]; exact Nat.mul_div_cancel _ (by omega)
    simp [h0, h4]
    simp only [List.length_append] at e
    rw [e, hb]
    simp [boundA]

theorem sliceS_post {p : Nat → Prop} {H : Heap} {es ty : Nat} {a : Option Addr} {n c k : Nat} {cs : List Value} (h : OwnL p H es ty (.slice a n c) n cs) (h0 : es ≠ 0) (hk : k ≤ n) :
    ∃ v, sliceS H es a n c (some (.int .i64 (k : Int))) none none = some v ∧ OwnL p H es ty v (n - k) (cs.drop (k * es)) := by
  have hb : boundA (some (.int .i64 (k : Int))) 0 n = some k := by simp [boundA]; omega
  rcases h with ⟨h1, h2, h3⟩ | ⟨b, o, pre, h1, h2, h3, h4, h5, h6⟩
  · simp only [Value.slice.injEq] at h1
    obtain ⟨rfl, rfl, rfl⟩ := h1
    obtain rfl : k = 0 := by omega
    subst h3
    refine ⟨.slice none 0 0, ?_, .inl ⟨rfl, rfl, by simp⟩⟩
    unfold sliceS
    rw [if_neg (by unfold openCap; omega)]
    simp [boundA]
  · simp only [Value.slice.injEq] at h1
    obtain ⟨rfl, _, rfl⟩ := h1
    refine ⟨.slice (some ⟨b, o + k * es, none⟩) (n - k) openCap, ?_, .inr ⟨b, o + k * es, pre ++ cs.take (k * es), rfl, h2, h3, ?_, ?_, ?_⟩⟩
    · unfold sliceS
      rw [if_pos rfl]
      have e : ((pre ++ cs).length - o) / es = n := by
        rw [List.length_append, h5, h6, Nat.add_sub_cancel_left]; exact Nat.mul_div_cancel _ (by omega)
      simp only [List.length_append] at e
      simp [h0, h4]
      rw [show boundA none n ((pre.length + cs.length - o) / es) = some n from rfl]
      simp [hb]
    · rw [h4, List.append_assoc, List.take_append_drop]
    · have := Nat.mul_le_mul_right es hk
      rw [List.length_append, List.length_take, h5, h6]; omega
    · rw [List.length_drop, h6, Nat.sub_mul]

def setTk (S : Sx) (i : Nat) (t : Tk) : Sx := { S with tk := upd S.tk i t }
def wakeAll (S : Sx) : List Nat → Sx
  | [] => S
  | i :: l => wakeAll (setTk S i { S.tk i with wait := 2 }) l
def wakeM (S : Sx) (c n : Nat) : Sx := { wakeAll S ((S.conds c).take n) with conds := upd S.conds c ((S.conds c).drop n) }
theorem wakeAll_snoc (S : Sx) (l : List Nat) (i : Nat) : wakeAll S (l ++ [i]) = setTk (wakeAll S l) i { (wakeAll S l).tk i with wait := 2 } := by
  induction l generalizing S with
  | nil => rfl
  | cons j l ih => exact ih _
theorem wakeAll_rest (l : List Nat) : ∀ S : Sx, (wakeAll S l).N = S.N ∧ (wakeAll S l).room = S.room ∧ (wakeAll S l).locks = S.locks ∧ (wakeAll S l).conds = S.conds ∧ (wakeAll S l).queues = S.queues ∧ (wakeAll S l).regs = S.regs ∧ (wakeAll S l).last = S.last ∧ (wakeAll S l).trace = S.trace := by
  induction l with
  | nil => intro S; exact ⟨rfl, rfl, rfl, rfl, rfl, rfl, rfl, rfl⟩
  | cons j l ih => intro S; exact ih (setTk S j _)

/- a condition's tasks are such -/
def CI (S : Sx) : Prop := ∀ j, j < 4 → ∀ i ∈ S.conds j, i < S.N

theorem wake_W {H : Heap} {r : Nat} {M : Mem} {S : Sx} (h : Rep H r M S) (hci : CI S) {C : Int} (h0 : 0 ≤ C) (h4 : C < 4) {n : Nat} (hn : n ≤ (S.conds C.toNat).length) (hbd : (S.conds C.toNat).length ≤ 1000000) :
   CW Try.prog 49 #[.pointer (some ⟨r, 0, none⟩), .int .i64 C, nv n] H fun x H' => x = .ret (.tuple #[]) ∧ ∃ M', Rep H' r M' (wakeM S C.toNat n) ∧ Frm H M H' M' := by
  refine CW_k (n := 44) if49 rfl ?_
  unfold C49
  have hA : C.toNat < 4 := by omega
  have hO := h.cond _ hA (by simp)
  obtain ⟨a, c, ha⟩ := hO.sl
  rw [ha] at hO
  simp (config := { implicitDefEqProofs := false, maxDischargeDepth := 6, maxSteps := 1000000 }) only [go_sem, ↓reduceIte, Nat.reduceLT, Nat.reduceLeDiff, Nat.reduceEqDiff, Nat.reduceAdd, Nat.reduceMul, Nat.reduceSub, Nat.reduceBEq, reduceCtorEq, Int.reduceEq, Int.reduceLT, Int.reduceLE, Int.reduceNeg, Int.reduceToNat, h.run, h0, h4, hA, ha, nv, sliceS_pre hO (by omega) hn, goInt]
  refine Wk_loopF (fun m f H1 => ∃ k, m = n - k ∧ k ≤ n ∧ f.get 0 = some (.pointer (some ⟨r, 0, none⟩)) ∧ f.get 1 = some (.int .i64 C) ∧ f.get 2 = some (nv n) ∧ f.get 15 = some (.slice a n c) ∧ f.get 16 = some (nv n) ∧ f.get 17 = some (nv k) ∧
    Rep H1 r M (wakeAll S ((S.conds C.toNat).take k)) ∧ Frm H M H1 M) n ?_ ?_
  · refine ⟨0, by omega, by omega, ?_, ?_, ?_, ?_, ?_, ?_, h, Frm.refl⟩
    all_goals simp (config := { implicitDefEqProofs := false, maxDischargeDepth := 6, maxSteps := 1000000 }) only [go_sem, ↓reduceIte, Nat.reduceLT, Nat.reduceLeDiff, Nat.reduceEqDiff, Nat.reduceAdd, Nat.reduceMul, Nat.reduceSub, Nat.reduceBEq, reduceCtorEq, Int.reduceEq, Int.reduceLT, Int.reduceLE, Int.reduceNeg, Int.reduceToNat, nv]
    rfl
  · rintro m f H1 ⟨k, rfl, hk, f0, f1, f2, f15, f16, f17, h1, hF⟩
    unfold L49_1
    have hrest := wakeAll_rest ((S.conds C.toNat).take k) S
    have hO1 := h1.cond _ hA (by simp)
    rw [hrest.2.2.2.1, ha] at hO1
    by_cases hlt : k < n
    · have hltZ : (k : Int) < (n : Int) := by omega
      have hk0 : (0 : Int) ≤ (k : Int) := by omega
      have hkl : k < ((S.conds C.toNat).map nv).length := by rw [List.length_map]; omega
      obtain ⟨b, o, c', x, hs, hc, hx, hxk⟩ := hO1.rd.at_ hkl
      simp only [Value.slice.injEq] at hs
      obtain ⟨rfl, _, rfl⟩ := hs
      simp only [List.getElem_map, nv] at hxk
      have hkl' : k < (S.conds C.toNat).length := by omega
      have hiN : (S.conds C.toNat)[k] < S.N := hci _ hA _ (List.getElem_mem hkl')
      generalize hi : (S.conds C.toNat)[k] = i at *
      have hiN1 : i < (wakeAll S ((S.conds C.toNat).take k)).N := by rw [hrest.1]; exact hiN
      obtain ⟨tb, to, tc, tx, htv, htc, htx, htxi⟩ := h1.ptr hiN1
      rw [hrest.1] at htv
      have htk := h1.task i hiN1
      have htb := h1.tkb i hiN1
      have hi0 : (0 : Int) ≤ (i : Int) := by omega
      have hiZ : (i : Int) < (S.N : Int) := by omega
      have hw : IntKind.i64.wrap ((k : Int) + 1) = ((k + 1 : Nat) : Int) := IntWalk.i64_in _ (by omega)
      simp (config := { implicitDefEqProofs := false, maxDischargeDepth := 6, maxSteps := 1000000 }) only [go_sem, ↓reduceIte, Nat.reduceLT, Nat.reduceLeDiff, Nat.reduceEqDiff, Nat.reduceAdd, Nat.reduceMul, Nat.reduceSub, Nat.reduceBEq, reduceCtorEq, Int.reduceEq, Int.reduceLT, Int.reduceLE, Int.reduceNeg, Int.reduceToNat, f0, f1, f2, f15, f16, f17, nv, hltZ, hk0, hc, hx, hxk, h1.run, htv, htc, htx, htxi, htk, htb, hi0, hiZ, hw]
      have hT := h1.setTask hiN1 (t := { (wakeAll S ((S.conds C.toNat).take k)).tk i with wait := 2 }) rfl
      have hst : ({ (wakeAll S ((S.conds C.toNat).take k)) with tk := upd (wakeAll S ((S.conds C.toNat).take k)).tk i { (wakeAll S ((S.conds C.toNat).take k)).tk i with wait := 2 } } : Sx) = wakeAll S ((S.conds C.toNat).take (k + 1)) := by
        rw [List.take_succ_eq_append_getElem hkl', wakeAll_snoc, hi]; rfl
      rw [hst] at hT
      refine ⟨n - (k + 1), by omega, k + 1, rfl, by omega, ?_, ?_, ?_, ?_, ?_, ?_, hT, hF.trans (Frm.set (by rw [h1.tko i hiN1]; simp) _ rfl rfl rfl)⟩
      all_goals simp (config := { implicitDefEqProofs := false, maxDischargeDepth := 6, maxSteps := 1000000 }) only [go_sem, ↓reduceIte, Nat.reduceLT, Nat.reduceLeDiff, Nat.reduceEqDiff, Nat.reduceAdd, Nat.reduceMul, Nat.reduceSub, Nat.reduceBEq, reduceCtorEq, Int.reduceEq, Int.reduceLT, Int.reduceLE, Int.reduceNeg, Int.reduceToNat, f0, f1, f2, f15, f16, f17, nv]
    · have hltZ : ¬ (k : Int) < (n : Int) := by omega
      obtain rfl : k = n := by omega
      obtain ⟨v', hv', hO'⟩ := sliceS_post hO1 (by omega) hn
      obtain ⟨a', c', rfl⟩ := hO'.sl
      have hb := h1.rb
      simp (config := { implicitDefEqProofs := false, maxDischargeDepth := 6, maxSteps := 1000000 }) only [go_sem, ↓reduceIte, Nat.reduceLT, Nat.reduceLeDiff, Nat.reduceEqDiff, Nat.reduceAdd, Nat.reduceMul, Nat.reduceSub, Nat.reduceBEq, reduceCtorEq, Int.reduceEq, Int.reduceLT, Int.reduceLE, Int.reduceNeg, Int.reduceToNat, f0, f1, f2, f15, f16, f17, nv, hltZ, h1.run, h0, h4, hA, hrest.2.2.2.1, ha, hv', hb]
      have h2 := h1.ext ((Ext.refl h1.wf).bump 15)
      have h3 := h2.setRun (M' := { M with cv := upd M.cv C.toNat (.slice a' ((S.conds C.toNat).length - k) c') }) (S' := wakeM S C.toNat k) rfl rfl rfl rfl rfl rfl ?_ (fun j hj => h2.queue j hj (by simp)) (h2.trace (by simp))
      · exact ⟨{ M with cv := upd M.cv C.toNat (.slice a' ((S.conds C.toNat).length - k) c') }, h3, (hF.trans (Frm.ext ((Ext.refl h1.wf).bump 15))).trans (Frm.set (b := r) (M := M) (by rw [h1.ro]; simp) _ rfl rfl rfl)⟩
      · intro j hj
        by_cases e : j = C.toNat
        · subst e
          simp only [wakeM, upd_same, List.length_drop, List.map_drop]
          have := hO'
          rw [Nat.mul_one] at this
          exact this
        · simp only [wakeM, upd_ne e]
          have := h2.cond j hj (by simp)
          rw [hrest.2.2.2.1] at this
          exact this
end Go.Am.T
