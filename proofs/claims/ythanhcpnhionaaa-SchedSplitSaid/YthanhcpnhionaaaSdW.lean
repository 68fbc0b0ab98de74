/- Two runs that read alike are equal by the laws' Eq; slices and appends of an input. Conditions: those of each theorem. -/
import Derived.Test.YthanhcpnhionaaaSdU
set_option linter.all false
set_option linter.unusedSimpArgs false
set_option linter.unusedVariables false
namespace Go.Am.T
open Go Go.Am Go.Proofs.Ythanhcpnhionaaa Go.Proofs

theorem ints_W {H : Heap} {v w : Value} {l : List Int} (hv : RdI H v (l.map iv)) (hw : RdI H w (l.map iv)) (hb : l.length ≤ 70368744177664) : CW Try.prog 32 #[v, w] H fun x H' => x = .ret (.bool true) ∧ H = H' := by
  refine CW_k (n := 26) if32 rfl ?_
  unfold C32
  obtain ⟨va, vc, hvv, _⟩ := id hv
  obtain ⟨wa, wc, hww, _⟩ := id hw
  simp only [List.length_map] at hvv hww
  subst hvv hww
  simp (config := { implicitDefEqProofs := false, maxDischargeDepth := 6, maxSteps := 1000000 }) only [go_sem, ↓reduceIte, Nat.reduceLT, Nat.reduceLeDiff, Nat.reduceEqDiff, Nat.reduceAdd, Nat.reduceMul, Nat.reduceSub, Nat.reduceBEq, reduceCtorEq, Int.reduceEq, Int.reduceLT, Int.reduceLE, Int.reduceNeg, Int.reduceToNat, goInt]
  refine Wk_loopF (fun m f G => ∃ k, m = l.length - k ∧ k ≤ l.length ∧ f.get 0 = some (.slice va l.length vc) ∧ f.get 1 = some (.slice wa l.length wc) ∧ f.get 5 = some (nv k) ∧ G = H) l.length ?_ ?_
  · refine ⟨0, by omega, by omega, ?_, ?_, ?_, rfl⟩
    all_goals simp (config := { implicitDefEqProofs := false, maxDischargeDepth := 6, maxSteps := 1000000 }) only [go_sem, ↓reduceIte, Nat.reduceLT, Nat.reduceLeDiff, Nat.reduceEqDiff, Nat.reduceAdd, Nat.reduceMul, Nat.reduceSub, Nat.reduceBEq, reduceCtorEq, Int.reduceEq, Int.reduceLT, Int.reduceLE, Int.reduceNeg, Int.reduceToNat, nv]
    rfl
  rintro m f G ⟨k, rfl, hk, f0, f1, f5, hG⟩
  subst G
  unfold L32_1
  by_cases hlt : k < l.length
  · have hltZ : (k : Int) < (l.length : Int) := by omega
    have hk0 : (0 : Int) ≤ (k : Int) := by omega
    have hw1 : IntKind.i64.wrap ((k : Int) + 1) = ((k + 1 : Nat) : Int) := IntWalk.i64_in _ (by omega)
    obtain ⟨b, o, c, x, e, hc, hx, hxk⟩ := hv.at_ (i := k) (by simpa using hlt)
    simp only [Value.slice.injEq, List.length_map, true_and] at e
    obtain ⟨rfl, rfl⟩ := e
    obtain ⟨b', o', c', x', e, hc', hx', hxk'⟩ := hw.at_ (i := k) (by simpa using hlt)
    simp only [Value.slice.injEq, List.length_map, true_and] at e
    obtain ⟨rfl, rfl⟩ := e
    simp only [List.getElem_map, iv] at hxk hxk'
    simp (config := { implicitDefEqProofs := false, maxDischargeDepth := 6, maxSteps := 1000000 }) only [go_sem, ↓reduceIte, Nat.reduceLT, Nat.reduceLeDiff, Nat.reduceEqDiff, Nat.reduceAdd, Nat.reduceMul, Nat.reduceSub, Nat.reduceBEq, reduceCtorEq, Int.reduceEq, Int.reduceLT, Int.reduceLE, Int.reduceNeg, Int.reduceToNat, f0, f1, f5, nv, hltZ, hk0, hc, hx, hxk, hc', hx', hxk', hw1, goInt]
    refine ⟨l.length - (k + 1), by omega, k + 1, rfl, by omega, ?_, ?_, ?_, rfl⟩
    · simp (config := { implicitDefEqProofs := false, maxDischargeDepth := 6, maxSteps := 1000000 }) only [go_sem, ↓reduceIte, Nat.reduceLT, Nat.reduceLeDiff, Nat.reduceEqDiff, Nat.reduceAdd, Nat.reduceMul, Nat.reduceSub, Nat.reduceBEq, reduceCtorEq, Int.reduceEq, Int.reduceLT, Int.reduceLE, Int.reduceNeg, Int.reduceToNat, f0]
    · simp (config := { implicitDefEqProofs := false, maxDischargeDepth := 6, maxSteps := 1000000 }) only [go_sem, ↓reduceIte, Nat.reduceLT, Nat.reduceLeDiff, Nat.reduceEqDiff, Nat.reduceAdd, Nat.reduceMul, Nat.reduceSub, Nat.reduceBEq, reduceCtorEq, Int.reduceEq, Int.reduceLT, Int.reduceLE, Int.reduceNeg, Int.reduceToNat, f1]
    · simp (config := { implicitDefEqProofs := false, maxDischargeDepth := 6, maxSteps := 1000000 }) only [go_sem, ↓reduceIte, Nat.reduceLT, Nat.reduceLeDiff, Nat.reduceEqDiff, Nat.reduceAdd, Nat.reduceMul, Nat.reduceSub, Nat.reduceBEq, reduceCtorEq, Int.reduceEq, Int.reduceLT, Int.reduceLE, Int.reduceNeg, Int.reduceToNat, nv]
  · have hltZ : ¬ (k : Int) < (l.length : Int) := by omega
    simp (config := { implicitDefEqProofs := false, maxDischargeDepth := 6, maxSteps := 1000000 }) only [go_sem, ↓reduceIte, Nat.reduceLT, Nat.reduceLeDiff, Nat.reduceEqDiff, Nat.reduceAdd, Nat.reduceMul, Nat.reduceSub, Nat.reduceBEq, reduceCtorEq, Int.reduceEq, Int.reduceLT, Int.reduceLE, Int.reduceNeg, Int.reduceToNat, f0, f1, f5, nv, hltZ, goInt]

def PrAt (H : Heap) (v : Value) (l : List (Int × Int)) : Prop := ∃ a c, v = .slice a l.length c ∧ (l ≠ [] → c ≠ 0 ∧ ∃ b o x, a = some ⟨b, o, none⟩ ∧ H.get b = some x ∧ ∀ i (h : i < l.length), o + i * 2 + 2 ≤ x.cells.length ∧ (x.cells.drop (o + i * 2)).take 2 = [iv (l[i]).1, iv (l[i]).2])
theorem PrAt.at_ {H : Heap} {v : Value} {l : List (Int × Int)} (h : PrAt H v l) {i : Nat} (hi : i < l.length) : ∃ b o c x, v = .slice (some ⟨b, o, none⟩) l.length c ∧ c ≠ 0 ∧ H.get b = some x ∧ o + i * 2 + 2 ≤ x.cells.length ∧ (x.cells.drop (o + i * 2)).take 2 = [iv (l[i]).1, iv (l[i]).2] ∧ x.cells[o + i * 2]? = some (iv (l[i]).1) := by
  obtain ⟨a, c, e, k⟩ := h
  obtain ⟨hc, b, o, x, rfl, hx, k⟩ := k (by intro e; subst e; cases hi)
  obtain ⟨k1, k2⟩ := k i hi
  refine ⟨b, o, c, x, e, hc, hx, k1, k2, ?_⟩
  have := congrArg (fun l => l[0]?) k2
  simpa [List.getElem?_take, List.getElem?_drop] using this
theorem PrAt.of {H H' : Heap} {v : Value} {l : List (Int × Int)} (h : PrAt H v l) (k : ∀ b x, H.get b = some x → H'.get b = some x) : PrAt H' v l := by
  obtain ⟨a, c, e, q⟩ := h
  refine ⟨a, c, e, fun hl => ?_⟩
  obtain ⟨hc, b, o, x, ha, hx, q⟩ := q hl
  exact ⟨hc, b, o, x, ha, k b x hx, q⟩
def prC : List (Int × Int) → List Value
  | [] => []
  | p :: l => iv p.1 :: iv p.2 :: prC l
theorem prC_len (l : List (Int × Int)) : (prC l).length = l.length * 2 := by
  induction l with
  | nil => rfl
  | cons p l ih => simp [prC, ih]; omega
theorem prC_at : ∀ (l : List (Int × Int)) (i : Nat) (h : i < l.length), ((prC l).drop (i * 2)).take 2 = [iv (l[i]).1, iv (l[i]).2]
  | [], _, h => by cases h
  | p :: l, 0, _ => rfl
  | p :: l, i + 1, h => by
    have := prC_at l i (by simpa using h)
    rw [show (i + 1) * 2 = i * 2 + 2 by omega]
    simpa [prC] using this
theorem OwnL.pr {p : Nat → Prop} {H : Heap} {ty : Nat} {v : Value} {N : Nat} {cs : List Value} {l : List (Int × Int)} (h : OwnL p H 2 ty v N cs) (hc : cs = prC l) : PrAt H v l := by
  subst hc
  have hn : N = l.length := by have := h.len; rw [prC_len] at this; omega
  subst hn
  rcases h with ⟨rfl, h2, _⟩ | ⟨b, o, pre, rfl, _, _, h4, h5, _⟩
  · exact ⟨none, 0, by rw [h2], fun hl => absurd (List.eq_nil_of_length_eq_zero h2) hl⟩
  · refine ⟨some ⟨b, o, none⟩, openCap, rfl, fun _ => ⟨by unfold openCap; omega, b, o, _, rfl, h4, fun i hi => ?_⟩⟩
    subst h5
    refine ⟨by simp only [List.length_append, prC_len]; omega, ?_⟩
    rw [List.drop_length_add_append]
    exact prC_at l i hi
theorem trC_prC (l : List (Nat × Nat)) : trC l = prC (l.map fun p => ((p.1 : Int), (p.2 : Int))) := by
  induction l with
  | nil => rfl
  | cons p l ih => simp [trC, prC, ih, nv, iv]
theorem flat_prC {α : Type} (l : List α) (f g : α → Int) : (l.flatMap fun i => [iv (f i), iv (g i)]) = prC (l.map fun i => (f i, g i)) := by
  induction l with
  | nil => rfl
  | cons p l ih => simp [prC, ih]

structure RanV (H : Heap) (trv rgv ev qsv : Value) (tr : List (Int × Int)) (rg : List Int) (en : List (Int × Int)) (qs : List (List Int)) : Prop where
  tr_ : PrAt H trv tr
  rg_ : RdI H rgv (rg.map iv)
  en_ : PrAt H ev en
  qs_ : ∃ qv : Nat → Value, RdI H qsv ((List.range qs.length).map qv) ∧ ∀ j (h : j < qs.length), RdI H (qv j) ((qs[j]).map iv)
theorem RanV.of {H H' : Heap} {trv rgv ev qsv : Value} {tr : List (Int × Int)} {rg : List Int} {en : List (Int × Int)} {qs : List (List Int)} (h : RanV H trv rgv ev qsv tr rg en qs) (k : ∀ b x, H.get b = some x → H'.get b = some x) : RanV H' trv rgv ev qsv tr rg en qs := by
  obtain ⟨h1, h2, h3, qv, h4, h5⟩ := h
  exact ⟨h1.of k, h2.of k, h3.of k, qv, h4.of k, fun j hj => (h5 j hj).of k⟩
def trI (S : Sx) : List (Int × Int) := S.trace.map fun p => ((p.1 : Int), (p.2 : Int))
def rgI (S : Sx) : List Int := (List.range 8).map S.regs
def enI (S : Sx) : List (Int × Int) := (List.range S.N).map fun i => (howS S i, (S.tk i).n)
def qsI (S : Sx) : List (List Int) := (List.range 4).map S.queues
theorem RanAt.view {lo : Nat} {H : Heap} {S : Sx} {trv rgv ev qsv : Value} {qv : Nat → Value} (h : RanAt lo H S trv rgv ev qsv qv) : RanV H trv rgv ev qsv (trI S) (rgI S) (enI S) (qsI S) := by
  refine ⟨h.trace.pr (trC_prC _), ?_, h.ends.pr (flat_prC _ _ _), qv, ?_, ?_⟩
  · have := h.regs.rd
    rwa [rgI, List.map_map]
  · have := h.queues.rd
    rwa [qsI, List.length_map, List.length_range]
  · intro j hj
    have hj' : j < 4 := by simpa [qsI] using hj
    have := (h.queue j hj').rd
    simpa [qsI] using this

theorem Eq_W {H : Heap} (hw : WF H) {st : Int} {ta ra ea qa tb rb eb qb : Value} {tr : List (Int × Int)} {rg : List Int} {en : List (Int × Int)} {qs : List (List Int)} (ha : RanV H ta ra ea qa tr rg en qs) (hb : RanV H tb rb eb qb tr rg en qs)
    (l1 : tr.length ≤ 70368744177664) (l2 : rg.length ≤ 70368744177664) (l3 : en.length ≤ 70368744177664) (l4 : qs.length ≤ 70368744177664) (l5 : ∀ q ∈ qs, q.length ≤ 70368744177664) :
    CW Try.prog 16 #[.agg #[.int .i64 st, ta, ra, ea, qa], .agg #[.int .i64 st, tb, rb, eb, qb]] H fun x H' => x = .ret (.bool true) ∧ Ext H H' := by
  refine CW_k (n := 103) if16 rfl ?_
  unfold C16
  obtain ⟨a1, a2, rfl, _⟩ := id ha.tr_
  obtain ⟨a3, a4, rfl, _⟩ := id ha.rg_
  obtain ⟨a5, a6, rfl, _⟩ := id ha.en_
  obtain ⟨qv, hq, hqj⟩ := ha.qs_
  obtain ⟨a7, a8, hqa, _⟩ := id hq
  obtain ⟨b1, b2, rfl, _⟩ := id hb.tr_
  obtain ⟨b3, b4, rfl, _⟩ := id hb.rg_
  obtain ⟨b5, b6, rfl, _⟩ := id hb.en_
  obtain ⟨qw, hp, hpj⟩ := hb.qs_
  obtain ⟨b7, b8, hqb, _⟩ := id hp
  simp only [List.length_map, List.length_range] at hqa hqb
  subst hqa hqb
  have hnb := hw.1
  have hE := ((Ext.refl hw).alloc (⟨33, 0, false, [.int .i64 st, .slice a1 tr.length a2, .slice a3 (rg.map iv).length a4, .slice a5 en.length a6, .slice a7 qs.length a8]⟩ : Blk)).alloc (⟨33, 0, false, [.int .i64 st, .slice b1 tr.length b2, .slice b3 (rg.map iv).length b4, .slice b5 en.length b6, .slice b7 qs.length b8]⟩ : Blk)
  simp (config := { implicitDefEqProofs := false, maxDischargeDepth := 6, maxSteps := 1000000 }) only [go_sem, ↓reduceIte, Nat.reduceLT, Nat.reduceLeDiff, Nat.reduceEqDiff, Nat.reduceAdd, Nat.reduceMul, Nat.reduceSub, Nat.reduceBEq, reduceCtorEq, Int.reduceEq, Int.reduceLT, Int.reduceLE, Int.reduceNeg, Int.reduceToNat, hnb, loads_eq, goInt]
  generalize hF : Heap.alloc (Heap.alloc H _) _ = F at *
  have ca : F.get H.next = some ⟨33, 0, false, [.int .i64 st, .slice a1 tr.length a2, .slice a3 (rg.map iv).length a4, .slice a5 en.length a6, .slice a7 qs.length a8]⟩ := by rw [← hF]; simp (config := { implicitDefEqProofs := false, maxDischargeDepth := 6, maxSteps := 1000000 }) only [go_sem, ↓reduceIte, Nat.reduceLT, Nat.reduceLeDiff, Nat.reduceEqDiff, Nat.reduceAdd, Nat.reduceMul, Nat.reduceSub, Nat.reduceBEq, reduceCtorEq, Int.reduceEq, Int.reduceLT, Int.reduceLE, Int.reduceNeg, Int.reduceToNat, hnb]
  have cb : F.get (H.next + 1) = some ⟨33, 0, false, [.int .i64 st, .slice b1 tr.length b2, .slice b3 (rg.map iv).length b4, .slice b5 en.length b6, .slice b7 qs.length b8]⟩ := by rw [← hF]; simp (config := { implicitDefEqProofs := false, maxDischargeDepth := 6, maxSteps := 1000000 }) only [go_sem, ↓reduceIte, Nat.reduceLT, Nat.reduceLeDiff, Nat.reduceEqDiff, Nat.reduceAdd, Nat.reduceMul, Nat.reduceSub, Nat.reduceBEq, reduceCtorEq, Int.reduceEq, Int.reduceLT, Int.reduceLE, Int.reduceNeg, Int.reduceToNat, hnb]
  have hFw := hE.wf
  have haF : ∀ b x, H.get b = some x → F.get b = some x := fun b x hb => hE.of hw hb
  refine CW_mono _ (ints_W (ha.rg_.of haF) (hb.rg_.of haF) l2) ?_
  rintro _ _ ⟨rfl, rfl⟩
  simp (config := { implicitDefEqProofs := false, maxDischargeDepth := 6, maxSteps := 1000000 }) only [go_sem, ↓reduceIte, Nat.reduceLT, Nat.reduceLeDiff, Nat.reduceEqDiff, Nat.reduceAdd, Nat.reduceMul, Nat.reduceSub, Nat.reduceBEq, reduceCtorEq, Int.reduceEq, Int.reduceLT, Int.reduceLE, Int.reduceNeg, Int.reduceToNat, ]
  refine Wk_loopF (fun m f G => ∃ k, m = tr.length - k ∧ k ≤ tr.length ∧ f.get 2 = some (.pointer (some ⟨H.next, 0, none⟩)) ∧ f.get 3 = some (.pointer (some ⟨H.next + 1, 0, none⟩)) ∧ f.get 5 = some (nv k) ∧ G = F) tr.length ?_ ?_
  · refine ⟨0, by omega, by omega, ?_, ?_, ?_, rfl⟩
    all_goals simp (config := { implicitDefEqProofs := false, maxDischargeDepth := 6, maxSteps := 1000000 }) only [go_sem, ↓reduceIte, Nat.reduceLT, Nat.reduceLeDiff, Nat.reduceEqDiff, Nat.reduceAdd, Nat.reduceMul, Nat.reduceSub, Nat.reduceBEq, reduceCtorEq, Int.reduceEq, Int.reduceLT, Int.reduceLE, Int.reduceNeg, Int.reduceToNat, nv]
    rfl
  rintro m f G ⟨k, rfl, hk, f2, f3, f5, hG⟩
  subst G
  unfold L16_1
  by_cases hlt : k < tr.length
  · have hltZ : (k : Int) < (tr.length : Int) := by omega
    have hk0 : (0 : Int) ≤ (k : Int) := by omega
    have hw1 : IntKind.i64.wrap ((k : Int) + 1) = ((k + 1 : Nat) : Int) := IntWalk.i64_in _ (by omega)
    obtain ⟨b, o, c, x, e, hc, hx, hle, hxk, _⟩ := (ha.tr_.of haF).at_ hlt
    simp only [Value.slice.injEq, true_and] at e
    obtain ⟨rfl, rfl⟩ := e
    obtain ⟨b', o', c', x', e, hc', hx', hle', hxk', _⟩ := (hb.tr_.of haF).at_ hlt
    simp only [Value.slice.injEq, true_and] at e
    obtain ⟨rfl, rfl⟩ := e
    simp only [iv] at hxk hxk'
    simp (config := { implicitDefEqProofs := false, maxDischargeDepth := 6, maxSteps := 1000000 }) only [go_sem, ↓reduceIte, Nat.reduceLT, Nat.reduceLeDiff, Nat.reduceEqDiff, Nat.reduceAdd, Nat.reduceMul, Nat.reduceSub, Nat.reduceBEq, reduceCtorEq, Int.reduceEq, Int.reduceLT, Int.reduceLE, Int.reduceNeg, Int.reduceToNat, f2, f3, f5, nv, ca, cb, loads_eq, hltZ, hk0, hc, hx, hle, hxk, hc', hx', hle', hxk', hw1, goInt]
    refine ⟨tr.length - (k + 1), by omega, k + 1, rfl, by omega, ?_, ?_, ?_, rfl⟩
    · simp (config := { implicitDefEqProofs := false, maxDischargeDepth := 6, maxSteps := 1000000 }) only [go_sem, ↓reduceIte, Nat.reduceLT, Nat.reduceLeDiff, Nat.reduceEqDiff, Nat.reduceAdd, Nat.reduceMul, Nat.reduceSub, Nat.reduceBEq, reduceCtorEq, Int.reduceEq, Int.reduceLT, Int.reduceLE, Int.reduceNeg, Int.reduceToNat, f2]
    · simp (config := { implicitDefEqProofs := false, maxDischargeDepth := 6, maxSteps := 1000000 }) only [go_sem, ↓reduceIte, Nat.reduceLT, Nat.reduceLeDiff, Nat.reduceEqDiff, Nat.reduceAdd, Nat.reduceMul, Nat.reduceSub, Nat.reduceBEq, reduceCtorEq, Int.reduceEq, Int.reduceLT, Int.reduceLE, Int.reduceNeg, Int.reduceToNat, f3]
    · simp (config := { implicitDefEqProofs := false, maxDischargeDepth := 6, maxSteps := 1000000 }) only [go_sem, ↓reduceIte, Nat.reduceLT, Nat.reduceLeDiff, Nat.reduceEqDiff, Nat.reduceAdd, Nat.reduceMul, Nat.reduceSub, Nat.reduceBEq, reduceCtorEq, Int.reduceEq, Int.reduceLT, Int.reduceLE, Int.reduceNeg, Int.reduceToNat, nv]
  have hltZ : ¬ (k : Int) < (tr.length : Int) := by omega
  simp (config := { implicitDefEqProofs := false, maxDischargeDepth := 6, maxSteps := 1000000 }) only [go_sem, ↓reduceIte, Nat.reduceLT, Nat.reduceLeDiff, Nat.reduceEqDiff, Nat.reduceAdd, Nat.reduceMul, Nat.reduceSub, Nat.reduceBEq, reduceCtorEq, Int.reduceEq, Int.reduceLT, Int.reduceLE, Int.reduceNeg, Int.reduceToNat, f2, f3, f5, nv, ca, cb, hltZ, goInt]
  refine Wk_loopF (fun m f G => ∃ k, m = en.length - k ∧ k ≤ en.length ∧ f.get 2 = some (.pointer (some ⟨H.next, 0, none⟩)) ∧ f.get 3 = some (.pointer (some ⟨H.next + 1, 0, none⟩)) ∧ f.get 6 = some (nv k) ∧ G = F) en.length ?_ ?_
  · refine ⟨0, by omega, by omega, ?_, ?_, ?_, rfl⟩
    all_goals simp (config := { implicitDefEqProofs := false, maxDischargeDepth := 6, maxSteps := 1000000 }) only [go_sem, ↓reduceIte, Nat.reduceLT, Nat.reduceLeDiff, Nat.reduceEqDiff, Nat.reduceAdd, Nat.reduceMul, Nat.reduceSub, Nat.reduceBEq, reduceCtorEq, Int.reduceEq, Int.reduceLT, Int.reduceLE, Int.reduceNeg, Int.reduceToNat, f2, f3, nv]
    rfl
  clear f2 f3 f5
  rintro m f G ⟨k, rfl, hk, f2, f3, f6, hG⟩
  subst G
  unfold L16_2
  by_cases hlt : k < en.length
  · have hltZ : (k : Int) < (en.length : Int) := by omega
    have hk0 : (0 : Int) ≤ (k : Int) := by omega
    have hw1 : IntKind.i64.wrap ((k : Int) + 1) = ((k + 1 : Nat) : Int) := IntWalk.i64_in _ (by omega)
    obtain ⟨b, o, c, x, e, hc, hx, hle, hxk, _⟩ := (ha.en_.of haF).at_ hlt
    simp only [Value.slice.injEq, true_and] at e
    obtain ⟨rfl, rfl⟩ := e
    obtain ⟨b', o', c', x', e, hc', hx', hle', hxk', _⟩ := (hb.en_.of haF).at_ hlt
    simp only [Value.slice.injEq, true_and] at e
    obtain ⟨rfl, rfl⟩ := e
    simp only [iv] at hxk hxk'
    simp (config := { implicitDefEqProofs := false, maxDischargeDepth := 6, maxSteps := 1000000 }) only [go_sem, ↓reduceIte, Nat.reduceLT, Nat.reduceLeDiff, Nat.reduceEqDiff, Nat.reduceAdd, Nat.reduceMul, Nat.reduceSub, Nat.reduceBEq, reduceCtorEq, Int.reduceEq, Int.reduceLT, Int.reduceLE, Int.reduceNeg, Int.reduceToNat, f2, f3, f6, nv, ca, cb, loads_eq, hltZ, hk0, hc, hx, hle, hxk, hc', hx', hle', hxk', hw1, goInt]
    refine ⟨en.length - (k + 1), by omega, k + 1, rfl, by omega, ?_, ?_, ?_, rfl⟩
    · simp (config := { implicitDefEqProofs := false, maxDischargeDepth := 6, maxSteps := 1000000 }) only [go_sem, ↓reduceIte, Nat.reduceLT, Nat.reduceLeDiff, Nat.reduceEqDiff, Nat.reduceAdd, Nat.reduceMul, Nat.reduceSub, Nat.reduceBEq, reduceCtorEq, Int.reduceEq, Int.reduceLT, Int.reduceLE, Int.reduceNeg, Int.reduceToNat, f2]
    · simp (config := { implicitDefEqProofs := false, maxDischargeDepth := 6, maxSteps := 1000000 }) only [go_sem, ↓reduceIte, Nat.reduceLT, Nat.reduceLeDiff, Nat.reduceEqDiff, Nat.reduceAdd, Nat.reduceMul, Nat.reduceSub, Nat.reduceBEq, reduceCtorEq, Int.reduceEq, Int.reduceLT, Int.reduceLE, Int.reduceNeg, Int.reduceToNat, f3]
    · simp (config := { implicitDefEqProofs := false, maxDischargeDepth := 6, maxSteps := 1000000 }) only [go_sem, ↓reduceIte, Nat.reduceLT, Nat.reduceLeDiff, Nat.reduceEqDiff, Nat.reduceAdd, Nat.reduceMul, Nat.reduceSub, Nat.reduceBEq, reduceCtorEq, Int.reduceEq, Int.reduceLT, Int.reduceLE, Int.reduceNeg, Int.reduceToNat, nv]
  have hltZ : ¬ (k : Int) < (en.length : Int) := by omega
  simp (config := { implicitDefEqProofs := false, maxDischargeDepth := 6, maxSteps := 1000000 }) only [go_sem, ↓reduceIte, Nat.reduceLT, Nat.reduceLeDiff, Nat.reduceEqDiff, Nat.reduceAdd, Nat.reduceMul, Nat.reduceSub, Nat.reduceBEq, reduceCtorEq, Int.reduceEq, Int.reduceLT, Int.reduceLE, Int.reduceNeg, Int.reduceToNat, f2, f3, f6, nv, ca, cb, hltZ, goInt]
  refine Wk_loopF (fun m f G => ∃ k, m = qs.length - k ∧ k ≤ qs.length ∧ f.get 2 = some (.pointer (some ⟨H.next, 0, none⟩)) ∧ f.get 3 = some (.pointer (some ⟨H.next + 1, 0, none⟩)) ∧ f.get 7 = some (nv k) ∧ Ext H G ∧ G.get H.next = F.get H.next ∧ G.get (H.next + 1) = F.get (H.next + 1)) qs.length ?_ ?_
  · refine ⟨0, by omega, by omega, ?_, ?_, ?_, hE, rfl, rfl⟩
    all_goals simp (config := { implicitDefEqProofs := false, maxDischargeDepth := 6, maxSteps := 1000000 }) only [go_sem, ↓reduceIte, Nat.reduceLT, Nat.reduceLeDiff, Nat.reduceEqDiff, Nat.reduceAdd, Nat.reduceMul, Nat.reduceSub, Nat.reduceBEq, reduceCtorEq, Int.reduceEq, Int.reduceLT, Int.reduceLE, Int.reduceNeg, Int.reduceToNat, f2, f3, nv]
    rfl
  clear f2 f3 f6
  rintro m f G ⟨k, rfl, hk, f2, f3, f7, hEG, hga, hgb⟩
  rw [ca] at hga
  rw [cb] at hgb
  have haG : ∀ b x, H.get b = some x → G.get b = some x := fun b x hb => hEG.of hw hb
  unfold L16_3
  by_cases hlt : k < qs.length
  · have hltZ : (k : Int) < (qs.length : Int) := by omega
    have hk0 : (0 : Int) ≤ (k : Int) := by omega
    have hw1 : IntKind.i64.wrap ((k : Int) + 1) = ((k + 1 : Nat) : Int) := IntWalk.i64_in _ (by omega)
    obtain ⟨b, o, c, x, e, hc, hx, hxk⟩ := (hq.of haG).at_ (i := k) (by simpa using hlt)
    simp only [Value.slice.injEq, List.length_map, List.length_range, true_and] at e
    obtain ⟨rfl, rfl⟩ := e
    obtain ⟨b', o', c', x', e, hc', hx', hxk'⟩ := (hp.of haG).at_ (i := k) (by simpa using hlt)
    simp only [Value.slice.injEq, List.length_map, List.length_range, true_and] at e
    obtain ⟨rfl, rfl⟩ := e
    simp only [List.getElem_map, List.getElem_range] at hxk hxk'
    simp (config := { implicitDefEqProofs := false, maxDischargeDepth := 6, maxSteps := 1000000 }) only [go_sem, ↓reduceIte, Nat.reduceLT, Nat.reduceLeDiff, Nat.reduceEqDiff, Nat.reduceAdd, Nat.reduceMul, Nat.reduceSub, Nat.reduceBEq, reduceCtorEq, Int.reduceEq, Int.reduceLT, Int.reduceLE, Int.reduceNeg, Int.reduceToNat, f2, f3, f7, nv, hga, hgb, hltZ, hk0, hc, hx, hxk, hc', hx', hxk', hw1, goInt]
    have hbm := Ext.bump (Ext.refl hEG.wf) 13
    have hbk : ∀ b x, G.get b = some x → (bump G 13).get b = some x := fun b x hb => hbm.of hEG.wf hb
    refine CW_mono _ (ints_W (((hqj k hlt).of haG).of hbk) (((hpj k hlt).of haG).of hbk) (l5 _ (List.getElem_mem hlt))) ?_
    rintro _ _ ⟨rfl, rfl⟩
    simp (config := { implicitDefEqProofs := false, maxDischargeDepth := 6, maxSteps := 1000000 }) only [go_sem, ↓reduceIte, Nat.reduceLT, Nat.reduceLeDiff, Nat.reduceEqDiff, Nat.reduceAdd, Nat.reduceMul, Nat.reduceSub, Nat.reduceBEq, reduceCtorEq, Int.reduceEq, Int.reduceLT, Int.reduceLE, Int.reduceNeg, Int.reduceToNat, f2, f3, f7, nv, hw1]
    refine ⟨qs.length - (k + 1), by omega, k + 1, rfl, by omega, ?_, ?_, ?_, hEG.trans hbm, ?_, ?_⟩
    · simp (config := { implicitDefEqProofs := false, maxDischargeDepth := 6, maxSteps := 1000000 }) only [go_sem, ↓reduceIte, Nat.reduceLT, Nat.reduceLeDiff, Nat.reduceEqDiff, Nat.reduceAdd, Nat.reduceMul, Nat.reduceSub, Nat.reduceBEq, reduceCtorEq, Int.reduceEq, Int.reduceLT, Int.reduceLE, Int.reduceNeg, Int.reduceToNat, f2]
    · simp (config := { implicitDefEqProofs := false, maxDischargeDepth := 6, maxSteps := 1000000 }) only [go_sem, ↓reduceIte, Nat.reduceLT, Nat.reduceLeDiff, Nat.reduceEqDiff, Nat.reduceAdd, Nat.reduceMul, Nat.reduceSub, Nat.reduceBEq, reduceCtorEq, Int.reduceEq, Int.reduceLT, Int.reduceLE, Int.reduceNeg, Int.reduceToNat, f3]
    · simp (config := { implicitDefEqProofs := false, maxDischargeDepth := 6, maxSteps := 1000000 }) only [go_sem, ↓reduceIte, Nat.reduceLT, Nat.reduceLeDiff, Nat.reduceEqDiff, Nat.reduceAdd, Nat.reduceMul, Nat.reduceSub, Nat.reduceBEq, reduceCtorEq, Int.reduceEq, Int.reduceLT, Int.reduceLE, Int.reduceNeg, Int.reduceToNat, nv]
    · rw [ca]; exact hbk _ _ hga
    · rw [cb]; exact hbk _ _ hgb
  · have hltZ : ¬ (k : Int) < (qs.length : Int) := by omega
    simp (config := { implicitDefEqProofs := false, maxDischargeDepth := 6, maxSteps := 1000000 }) only [go_sem, ↓reduceIte, Nat.reduceLT, Nat.reduceLeDiff, Nat.reduceEqDiff, Nat.reduceAdd, Nat.reduceMul, Nat.reduceSub, Nat.reduceBEq, reduceCtorEq, Int.reduceEq, Int.reduceLT, Int.reduceLE, Int.reduceNeg, Int.reduceToNat, f2, f3, f7, nv, hga, hltZ, goInt]
    exact hEG
end Go.Am.T
