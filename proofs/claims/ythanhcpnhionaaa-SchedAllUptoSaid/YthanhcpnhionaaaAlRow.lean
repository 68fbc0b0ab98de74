/- SchedAll is true of every input of bulk at most 1048576, and its arguments read behind the call as before. Conditions: the statement's own. -/
import Derived.Test.YthanhcpnhionaaaAlF
set_option linter.all false
set_option linter.unusedSimpArgs false
set_option linter.unusedVariables false
namespace Go.Am.T
open Go Go.Am Go.Proofs.Ythanhcpnhionaaa Go.Proofs
def rlen_le (S : Sx) : (rdy S).length ≤ S.N := rdyTo_len S S.N
theorem rr_begin {H0 H H' : Heap} (hw0 : WF H0) (hE0 : Ext H0 H) {r : Nat} {tv tv' : Value} {ts : List (List Act)} {av : Nat → Value} {room most : Int} {picks : List Int} (ht : TasksAt H tv ts av) (hf : Fine ts room picks most) (h0 : H.next ≤ r) (hE : Ext H H') (hr : H'.get r = some (stB (st0 tv' room)))
    (hO : OwnL (fun b => H.next ≤ b ∧ b ≠ r) H' 6 68 tv' ts.length (fl6 (tc0 av ts) ts.length)) : ∃ M, Rr H0 H' r M (S0 ts room) := by
  obtain ⟨M, h1, h2, h3⟩ := RfR_S0 hE0.wf ht hf h0 hE hr hO
  refine ⟨M, h1, fun b x hb => ⟨(hE0.trans hE).of hw0 hb, h3 b ?_⟩, (hE0.trans hE).le, h2⟩
  have := hw0.lt hb
  have := hE0.le
  omega
def RReadyPost (H : Heap) (ts : List (List Act)) (room : Int) (picks : List Int) (x : CR) (H' : Heap) : Prop :=
  Kep H H' ∧ ∃ v, x = .ret (.tuple #[v, .int .i64 (askedP ts room picks 0)]) ∧ (askedP ts room picks 0 ≠ 0 → v = .slice none 0 0) ∧
      (askedP ts room picks 0 = 0 → OwnL (fun b => H.next ≤ b) H' 1 3 v (rdy (runM picks.length (S0 ts room) picks)).length ((rdy (runM picks.length (S0 ts room) picks)).map nv))
theorem rReady_W {H : Heap} (hw : WF H) {tv pv : Value} {ts : List (List Act)} {av : Nat → Value} (ht : TasksAt H tv ts av) (hN : ts.length ≤ 70368744177664) {room : Int} {picks : List Int} (hp : RdI H pv (picks.map iv)) :
    CW Try.prog 18 #[tv, .int .i64 room, pv] H (RReadyPost H ts room picks) := by
  refine CW_k (n := 50) if18 rfl ?_
  unfold C18
  obtain ⟨pa, pc, hpv, _⟩ := id hp
  simp only [List.length_map] at hpv
  simp -implicitDefEqProofs (maxDischargeDepth := 6) (maxSteps := 1000000) only [go_sem, ↓reduceIte, Nat.reduceLT, Nat.reduceLeDiff, Nat.reduceEqDiff, Nat.reduceAdd, Nat.reduceMul, Nat.reduceSub, Nat.reduceBEq, reduceCtorEq, Int.reduceEq, Int.reduceLT, Int.reduceLE, Int.reduceNeg, Int.reduceToNat, ]
  refine CW_mono _ (rasked_W hw ht hN (room := room) hp) ?_
  rintro _ H1 ⟨rfl, hE1⟩
  by_cases h0 : askedP ts room picks 0 = 0
  case neg =>
    simp -implicitDefEqProofs (maxDischargeDepth := 6) (maxSteps := 1000000) only [go_sem, ↓reduceIte, Nat.reduceLT, Nat.reduceLeDiff, Nat.reduceEqDiff, Nat.reduceAdd, Nat.reduceMul, Nat.reduceSub, Nat.reduceBEq, reduceCtorEq, Int.reduceEq, Int.reduceLT, Int.reduceLE, Int.reduceNeg, Int.reduceToNat, h0]
    exact ⟨ext_kep hE1 hw, _, rfl, fun _ => rfl, fun h => absurd h h0⟩
  have hf := asked_ok h0
  have hpo := hf.pos
  have hpl := hf.p
  simp -implicitDefEqProofs (maxDischargeDepth := 6) (maxSteps := 1000000) only [go_sem, ↓reduceIte, Nat.reduceLT, Nat.reduceLeDiff, Nat.reduceEqDiff, Nat.reduceAdd, Nat.reduceMul, Nat.reduceSub, Nat.reduceBEq, reduceCtorEq, Int.reduceEq, Int.reduceLT, Int.reduceLE, Int.reduceNeg, Int.reduceToNat, h0]
  refine CW_mono _ (begin_W hE1.wf (ht.of hw hE1) (room := room) (by have := hf.n; omega)) ?_
  rintro _ H2 ⟨r, tv', rfl, hr, hE2, hst, hO⟩
  obtain ⟨M, hR⟩ := rr_begin hw hE1 (ht.of hw hE1) hf hr hE2 hst hO
  simp -implicitDefEqProofs (maxDischargeDepth := 6) (maxSteps := 1000000) only [go_sem, ↓reduceIte, Nat.reduceLT, Nat.reduceLeDiff, Nat.reduceEqDiff, Nat.reduceAdd, Nat.reduceMul, Nat.reduceSub, Nat.reduceBEq, reduceCtorEq, Int.reduceEq, Int.reduceLT, Int.reduceLE, Int.reduceNeg, Int.reduceToNat, ]
  refine CW_mono _ (rready_W hR.rf) ?_
  rintro _ H3 ⟨v, rfl, hE3, hOv⟩
  have hR3 := hR.ext hE3
  have hOv := own_new hR hE3.wf hOv
  generalize M.mk' H2 H3 = M3 at hR3 hOv
  simp -implicitDefEqProofs (maxDischargeDepth := 6) (maxSteps := 1000000) only [go_sem, ↓reduceIte, Nat.reduceLT, Nat.reduceLeDiff, Nat.reduceEqDiff, Nat.reduceAdd, Nat.reduceMul, Nat.reduceSub, Nat.reduceBEq, reduceCtorEq, Int.reduceEq, Int.reduceLT, Int.reduceLE, Int.reduceNeg, Int.reduceToNat, ]
  refine Wk_loopF (fun m f G => ∃ S M v, m = picks.length - S.trace.length ∧ S.trace.length ≤ picks.length ∧ f.get 2 = some (.slice pa picks.length pc) ∧ f.get 9 = some (.pointer (some ⟨r, 0, none⟩)) ∧ f.get 10 = some v ∧ f.get 11 = some (nv S.trace.length) ∧ Rr H G r M S ∧
    OwnL (tb H M) G 1 3 v (rdy S).length ((rdy S).map nv) ∧ runM (picks.length - S.trace.length) S picks = runM picks.length (S0 ts room) picks) picks.length ?_ ?_
  · refine ⟨S0 ts room, M3, v, by simp [S0], by simp [S0], ?_, ?_, ?_, ?_, hR3, hOv, by simp [S0]⟩
    all_goals simp -implicitDefEqProofs (maxDischargeDepth := 6) (maxSteps := 1000000) only [go_sem, ↓reduceIte, Nat.reduceLT, Nat.reduceLeDiff, Nat.reduceEqDiff, Nat.reduceAdd, Nat.reduceMul, Nat.reduceSub, Nat.reduceBEq, reduceCtorEq, Int.reduceEq, Int.reduceLT, Int.reduceLE, Int.reduceNeg, Int.reduceToNat, nv, hpv]
    rfl
  clear hR3 hOv hE3 hR hst hO
  rintro m f G ⟨S, M, v, rfl, hk, f2, f9, f10, f11, hR, hOv, hrun⟩
  obtain ⟨va, vc, rfl⟩ := hOv.sl
  unfold L18_1
  have fin : ∀ S', rdy S' = rdy S → S' = runM picks.length (S0 ts room) picks → OwnL (fun b => H.next ≤ b) G 1 3 (.slice va (rdy S).length vc) (rdy (runM picks.length (S0 ts room) picks)).length ((rdy (runM picks.length (S0 ts room) picks)).map nv) := by
    rintro _ e rfl
    rw [e]
    exact hOv.frame fun b x hb hg => ⟨hb.1, hg⟩
  by_cases hlt : S.trace.length < picks.length
  case neg =>
    have hltZ : ¬ (S.trace.length : Int) < (picks.length : Int) := by omega
    simp -implicitDefEqProofs (maxDischargeDepth := 6) (maxSteps := 1000000) only [go_sem, ↓reduceIte, Nat.reduceLT, Nat.reduceLeDiff, Nat.reduceEqDiff, Nat.reduceAdd, Nat.reduceMul, Nat.reduceSub, Nat.reduceBEq, reduceCtorEq, Int.reduceEq, Int.reduceLT, Int.reduceLE, Int.reduceNeg, Int.reduceToNat, f2, f9, f10, f11, nv, goInt, hltZ]
    refine ⟨hR.kep, _, by rw [h0], fun h => absurd h0 h, fun _ => fin S rfl ?_⟩
    rw [← hrun, show picks.length - S.trace.length = 0 from by omega]; rfl
  have hltZ : (S.trace.length : Int) < (picks.length : Int) := by omega
  obtain ⟨k, hk1⟩ : ∃ k, picks.length - S.trace.length = k + 1 := ⟨picks.length - S.trace.length - 1, by omega⟩
  by_cases hem : rdy S = []
  · have hz : ¬ (0 : Int) < ((rdy S).length : Int) := by rw [hem]; simp
    simp -implicitDefEqProofs (maxDischargeDepth := 6) (maxSteps := 1000000) only [go_sem, ↓reduceIte, Nat.reduceLT, Nat.reduceLeDiff, Nat.reduceEqDiff, Nat.reduceAdd, Nat.reduceMul, Nat.reduceSub, Nat.reduceBEq, reduceCtorEq, Int.reduceEq, Int.reduceLT, Int.reduceLE, Int.reduceNeg, Int.reduceToNat, f2, f9, f10, f11, nv, goInt, hltZ, hz]
    refine ⟨hR.kep, _, by rw [h0], fun h => absurd h0 h, fun _ => fin S rfl ?_⟩
    rw [← hrun, hk1, runM, if_pos hem]
  have hz : (0 : Int) < ((rdy S).length : Int) := by
    have : (rdy S).length ≠ 0 := fun e => hem (List.eq_nil_of_length_eq_zero e)
    omega
  have hk0 : (0 : Int) ≤ (S.trace.length : Int) := by omega
  obtain ⟨b, o, c, x, hv, hc, hx, hxk⟩ := (hp.of fun b x hb => (hR.keep b x hb).1).at_ (i := S.trace.length) (by simpa using hlt)
  rw [hpv, List.length_map] at hv
  simp only [Value.slice.injEq, true_and] at hv
  obtain ⟨rfl, rfl⟩ := hv
  simp only [List.getElem_map, iv] at hxk
  have hstr := hR.rf.x.st
  have hlast := hR.last
  simp -implicitDefEqProofs (maxDischargeDepth := 6) (maxSteps := 1000000) only [go_sem, ↓reduceIte, Nat.reduceLT, Nat.reduceLeDiff, Nat.reduceEqDiff, Nat.reduceAdd, Nat.reduceMul, Nat.reduceSub, Nat.reduceBEq, reduceCtorEq, Int.reduceEq, Int.reduceLT, Int.reduceLE, Int.reduceNeg, Int.reduceToNat, f2, f9, f10, f11, nv, goInt, hltZ, hz, hk0, hc, hx, hxk, hstr, hlast]
  have hEb := Ext.bump (Ext.refl hR.rf.x.wf) 13
  have hRb := hR.ext hEb
  have hOb := own_ext hR hOv hEb
  have hkk : kP picks S.trace.length = picks[S.trace.length] := by unfold kP; rw [List.getElem?_eq_getElem hlt]
  have hN16 := hR.rf.n16
  have hrl := rlen_le S
  refine CW_mono _ (rpick_W hOb.rd hem (by omega)) ?_
  rintro _ _ ⟨rfl, rfl⟩
  rw [← hkk, pick_next hpo]
  have hmem := nextP_mem (last := S.last) (k := S.trace.length) (picks := picks) hem
  generalize hni : nextP S.last S.trace.length (rdy S) picks = i at hmem ⊢
  obtain ⟨hi, hh⟩ := mem_rdy.1 hmem
  obtain ⟨hat, hq, _⟩ := how_3 hh
  simp -implicitDefEqProofs (maxDischargeDepth := 6) (maxSteps := 1000000) only [go_sem, ↓reduceIte, Nat.reduceLT, Nat.reduceLeDiff, Nat.reduceEqDiff, Nat.reduceAdd, Nat.reduceMul, Nat.reduceSub, Nat.reduceBEq, reduceCtorEq, Int.reduceEq, Int.reduceLT, Int.reduceLE, Int.reduceNeg, Int.reduceToNat, f9, nv]
  refine CW_mono _ (hRb.step hi hh (by omega)) ?_
  rintro _ G2 ⟨rfl, M2, hR2, _⟩
  have kt : (stepM S i).trace.length = S.trace.length + 1 := by rw [(stepM_kp hi hat).trace]; simp [begS]
  have hw1 : IntKind.i64.wrap ((S.trace.length : Int) + 1) = ((S.trace.length + 1 : Nat) : Int) := IntWalk.i64_in _ (by omega)
  simp -implicitDefEqProofs (maxDischargeDepth := 6) (maxSteps := 1000000) only [go_sem, ↓reduceIte, Nat.reduceLT, Nat.reduceLeDiff, Nat.reduceEqDiff, Nat.reduceAdd, Nat.reduceMul, Nat.reduceSub, Nat.reduceBEq, reduceCtorEq, Int.reduceEq, Int.reduceLT, Int.reduceLE, Int.reduceNeg, Int.reduceToNat, f9]
  refine CW_mono _ (rready_W hR2.rf) ?_
  rintro _ G3 ⟨v', rfl, hE3, hO3⟩
  simp -implicitDefEqProofs (maxDischargeDepth := 6) (maxSteps := 1000000) only [go_sem, ↓reduceIte, Nat.reduceLT, Nat.reduceLeDiff, Nat.reduceEqDiff, Nat.reduceAdd, Nat.reduceMul, Nat.reduceSub, Nat.reduceBEq, reduceCtorEq, Int.reduceEq, Int.reduceLT, Int.reduceLE, Int.reduceNeg, Int.reduceToNat, f9, f11, nv, hw1]
  refine ⟨picks.length - (stepM S i).trace.length, by omega, stepM S i, _, v', rfl, by omega, ?_, ?_, ?_, ?_, hR2.ext hE3, own_new hR2 hE3.wf hO3, ?_⟩
  · simp only [Tr.get_put, Nat.reduceEqDiff, ↓reduceIte, f2]
  · simp only [Tr.get_put, Nat.reduceEqDiff, ↓reduceIte, f9]
  · simp only [Tr.get_put, Nat.reduceEqDiff, ↓reduceIte, nv]
  · simp -implicitDefEqProofs (maxDischargeDepth := 6) (maxSteps := 1000000) only [go_sem, ↓reduceIte, Nat.reduceLT, Nat.reduceLeDiff, Nat.reduceEqDiff, Nat.reduceAdd, Nat.reduceMul, Nat.reduceSub, Nat.reduceBEq, reduceCtorEq, Int.reduceEq, Int.reduceLT, Int.reduceLE, Int.reduceNeg, Int.reduceToNat, kt, nv]
  · rw [← hrun, hk1, runM, if_neg hem, hni, kt]
    congr 1
    omega
end Go.Am.T
namespace Go.Am.T
open Go Go.Am Go.Proofs.Ythanhcpnhionaaa Go.Proofs
structure JA (H0 : Heap) (r bo o : Nat) (S : Sx) (s : St) : Prop where
  n : s.n = 160
  d : s.d = []
  f8 : s.f.get 8 = some (.pointer (some ⟨o, 0, none⟩))
  f11 : s.f.get 11 = some (.pointer (some ⟨r, 0, none⟩))
  f12 : s.f.get 12 = some (.pointer (some ⟨bo, 0, none⟩))
  m : ∃ M trv, Rr H0 s.H r M S ∧ Bk H0 M s.H bo (outB S.trace.length trv (.slice none 0 0) (.slice none 0 0) (.slice none 0 0)) ∧ OwnL (tb H0 M) s.H 2 39 trv S.trace.length (trC S.trace)
structure J13 (G : Heap) (pv : Value) (most o r bo : Nat) (v : Value) (kk : Option Int) (s : St) : Prop where
  n : s.n = 160
  d : s.d = []
  h : s.H = G
  f2 : s.f.get 2 = some pv
  f3 : s.f.get 3 = some (nv most)
  f8 : s.f.get 8 = some (.pointer (some ⟨o, 0, none⟩))
  f11 : s.f.get 11 = some (.pointer (some ⟨r, 0, none⟩))
  f12 : s.f.get 12 = some (.pointer (some ⟨bo, 0, none⟩))
  f13 : s.f.get 13 = some v
  f14 : ∀ k, kk = some k → s.f.get 14 = some (.int .i64 k)
theorem run1 {H0 : Heap} {r bo o : Nat} (hbo : base0 ≤ bo) {pv : Value} {picks : List Int} {most : Nat} (hp : RdI H0 pv (picks.map iv)) (hpo : ∀ p ∈ picks, 0 ≤ p) (hpl : picks.length ≤ 65536) (hm : most ≤ 65536) {st : List Fr} {Q : Ex → St → Prop} {f : Tr Value} {G : Heap} {M : RM} {S : Sx} {v trv : Value}
    (h2 : f.get 2 = some pv) (h3 : f.get 3 = some (nv most)) (h8 : f.get 8 = some (.pointer (some ⟨o, 0, none⟩))) (h11 : f.get 11 = some (.pointer (some ⟨r, 0, none⟩))) (h12 : f.get 12 = some (.pointer (some ⟨bo, 0, none⟩))) (h13 : f.get 13 = some v)
    (hR : Rr H0 G r M S) (hO : OwnL (tb H0 M) G 1 3 v (rdy S).length ((rdy S).map nv)) (hT : OwnL (tb H0 M) G 2 39 trv S.trace.length (trC S.trace)) (hB : Bk H0 M G bo (outB S.trace.length trv (.slice none 0 0) (.slice none 0 0) (.slice none 0 0))) (ht0 : S.trace.length ≤ 65536) :
    Wk Try.prog (.c (.block 0 (.loop L13_1)) :: .i (JA H0 r bo o (runM (most - S.trace.length) S picks)) :: st) (some ⟨160, f, [], G⟩) Q := by
  obtain ⟨pa, pc, hpv, _⟩ := id hp
  simp only [List.length_map] at hpv
  rw [Wk_block]
  refine Wk_loopF (fun m f G => ∃ S1 M v trv, m = most - S1.trace.length ∧ S1.trace.length ≤ 65536 ∧ f.get 2 = some pv ∧ f.get 3 = some (nv most) ∧ f.get 8 = some (.pointer (some ⟨o, 0, none⟩)) ∧ f.get 11 = some (.pointer (some ⟨r, 0, none⟩)) ∧ f.get 12 = some (.pointer (some ⟨bo, 0, none⟩)) ∧ f.get 13 = some v ∧
    Rr H0 G r M S1 ∧ OwnL (tb H0 M) G 1 3 v (rdy S1).length ((rdy S1).map nv) ∧ OwnL (tb H0 M) G 2 39 trv S1.trace.length (trC S1.trace) ∧ Bk H0 M G bo (outB S1.trace.length trv (.slice none 0 0) (.slice none 0 0) (.slice none 0 0)) ∧
    runM (most - S1.trace.length) S1 picks = runM (most - S.trace.length) S picks) (most - S.trace.length) ⟨S, M, v, trv, rfl, ht0, h2, h3, h8, h11, h12, h13, hR, hO, hT, hB, rfl⟩ ?_
  generalize hSf : runM (most - S.trace.length) S picks = Sf
  clear h2 h3 h8 h11 h12 h13 hR hO hT hB ht0 hSf
  rintro m f G ⟨S, M, v, trv, rfl, ht0, f2, f3, f8, f11, f12, f13, hR, hO, hT, hB, hrun⟩
  unfold L13_1
  obtain ⟨va, vc, rfl⟩ := hO.sl
  obtain ⟨ra, rc, rfl⟩ := hT.sl
  have hcell := hB.2.2
  have fin : S = Sf → ∀ f' : Tr Value, f'.get 8 = some (.pointer (some ⟨o, 0, none⟩)) → f'.get 11 = some (.pointer (some ⟨r, 0, none⟩)) → f'.get 12 = some (.pointer (some ⟨bo, 0, none⟩)) → JA H0 r bo o Sf ⟨160, f', [], G⟩ := by
    rintro rfl f' k8 k11 k12
    exact ⟨rfl, rfl, k8, k11, k12, M, _, hR, hB, hT⟩
  by_cases hlt : S.trace.length < most
  case neg =>
    have hltZ : ¬ (S.trace.length : Int) < (most : Int) := by omega
    simp -implicitDefEqProofs (maxDischargeDepth := 6) (maxSteps := 1000000) only [go_sem, ↓reduceIte, Nat.reduceLT, Nat.reduceLeDiff, Nat.reduceEqDiff, Nat.reduceAdd, Nat.reduceMul, Nat.reduceSub, Nat.reduceBEq, reduceCtorEq, Int.reduceEq, Int.reduceLT, Int.reduceLE, Int.reduceNeg, Int.reduceToNat, f2, f3, f8, f11, f12, f13, nv, hcell, outB, goInt, hltZ]
    refine fin ?_ _ ?_ ?_ ?_
    · rw [← hrun, show most - S.trace.length = 0 from by omega]; rfl
    all_goals simp -implicitDefEqProofs (maxDischargeDepth := 6) (maxSteps := 1000000) only [go_sem, ↓reduceIte, Nat.reduceLT, Nat.reduceLeDiff, Nat.reduceEqDiff, Nat.reduceAdd, Nat.reduceMul, Nat.reduceSub, Nat.reduceBEq, reduceCtorEq, Int.reduceEq, Int.reduceLT, Int.reduceLE, Int.reduceNeg, Int.reduceToNat, f8, f11, f12]
  have hltZ : (S.trace.length : Int) < (most : Int) := by omega
  obtain ⟨k, hk1⟩ : ∃ k, most - S.trace.length = k + 1 := ⟨most - S.trace.length - 1, by omega⟩
  by_cases hem : rdy S = []
  · have hz : ¬ (0 : Int) < ((rdy S).length : Int) := by rw [hem]; simp
    simp -implicitDefEqProofs (maxDischargeDepth := 6) (maxSteps := 1000000) only [go_sem, ↓reduceIte, Nat.reduceLT, Nat.reduceLeDiff, Nat.reduceEqDiff, Nat.reduceAdd, Nat.reduceMul, Nat.reduceSub, Nat.reduceBEq, reduceCtorEq, Int.reduceEq, Int.reduceLT, Int.reduceLE, Int.reduceNeg, Int.reduceToNat, f2, f3, f8, f11, f12, f13, nv, hcell, outB, goInt, hltZ, hz]
    refine fin ?_ _ ?_ ?_ ?_
    · rw [← hrun, hk1, runM, if_pos hem]
    all_goals simp -implicitDefEqProofs (maxDischargeDepth := 6) (maxSteps := 1000000) only [go_sem, ↓reduceIte, Nat.reduceLT, Nat.reduceLeDiff, Nat.reduceEqDiff, Nat.reduceAdd, Nat.reduceMul, Nat.reduceSub, Nat.reduceBEq, reduceCtorEq, Int.reduceEq, Int.reduceLT, Int.reduceLE, Int.reduceNeg, Int.reduceToNat, f8, f11, f12]
  have hz : (0 : Int) < ((rdy S).length : Int) := by
    have : (rdy S).length ≠ 0 := fun e => hem (List.eq_nil_of_length_eq_zero e)
    omega
  rw [Wk_seq]
  refine Wk_cut (J13 G pv most o r bo (.slice va (rdy S).length vc) none) ?_ ?_
  · simp -implicitDefEqProofs (maxDischargeDepth := 6) (maxSteps := 1000000) only [go_sem, ↓reduceIte, Nat.reduceLT, Nat.reduceLeDiff, Nat.reduceEqDiff, Nat.reduceAdd, Nat.reduceMul, Nat.reduceSub, Nat.reduceBEq, reduceCtorEq, Int.reduceEq, Int.reduceLT, Int.reduceLE, Int.reduceNeg, Int.reduceToNat, f2, f3, f8, f11, f12, f13, nv, hcell, outB, goInt, hltZ, hz]
    refine ⟨rfl, rfl, rfl, ?_, ?_, ?_, ?_, ?_, ?_, by simp⟩
    all_goals simp -implicitDefEqProofs (maxDischargeDepth := 6) (maxSteps := 1000000) only [go_sem, ↓reduceIte, Nat.reduceLT, Nat.reduceLeDiff, Nat.reduceEqDiff, Nat.reduceAdd, Nat.reduceMul, Nat.reduceSub, Nat.reduceBEq, reduceCtorEq, Int.reduceEq, Int.reduceLT, Int.reduceLE, Int.reduceNeg, Int.reduceToNat, f2, f3, f8, f11, f12, f13, nv]
  clear f2 f3 f8 f11 f12 f13
  rintro ⟨n, f, dd, G'⟩ ⟨e1, e2, e3, f2, f3, f8, f11, f12, f13, _⟩
  dsimp only at e1 e2 e3 f2 f3 f8 f11 f12 f13
  subst e1 e2 e3
  rw [Wk_block, Wk_seq]
  refine Wk_cut (J13 G' pv most o r bo (.slice va (rdy S).length vc) (some (-1))) ?_ ?_
  · simp -implicitDefEqProofs (maxDischargeDepth := 6) (maxSteps := 1000000) only [go_sem, ↓reduceIte, Nat.reduceLT, Nat.reduceLeDiff, Nat.reduceEqDiff, Nat.reduceAdd, Nat.reduceMul, Nat.reduceSub, Nat.reduceBEq, reduceCtorEq, Int.reduceEq, Int.reduceLT, Int.reduceLE, Int.reduceNeg, Int.reduceToNat, ]
    refine ⟨rfl, rfl, rfl, ?_, ?_, ?_, ?_, ?_, ?_, ?_⟩
    rotate_right
    · rintro k hk
      cases hk
      simp -implicitDefEqProofs (maxDischargeDepth := 6) (maxSteps := 1000000) only [go_sem, ↓reduceIte, Nat.reduceLT, Nat.reduceLeDiff, Nat.reduceEqDiff, Nat.reduceAdd, Nat.reduceMul, Nat.reduceSub, Nat.reduceBEq, reduceCtorEq, Int.reduceEq, Int.reduceLT, Int.reduceLE, Int.reduceNeg, Int.reduceToNat, ]
    all_goals simp -implicitDefEqProofs (maxDischargeDepth := 6) (maxSteps := 1000000) only [go_sem, ↓reduceIte, Nat.reduceLT, Nat.reduceLeDiff, Nat.reduceEqDiff, Nat.reduceAdd, Nat.reduceMul, Nat.reduceSub, Nat.reduceBEq, reduceCtorEq, Int.reduceEq, Int.reduceLT, Int.reduceLE, Int.reduceNeg, Int.reduceToNat, f2, f3, f8, f11, f12, f13]
  clear f2 f3 f8 f11 f12 f13
  rintro ⟨n, f, dd, G''⟩ ⟨e1, e2, e3, f2, f3, f8, f11, f12, f13, f14⟩
  dsimp only at e1 e2 e3 f2 f3 f8 f11 f12 f13 f14
  subst e1 e2 e3
  have f14 := f14 _ rfl
  rw [Wk_seq]
  refine Wk_cut (J13 G'' pv most o r bo (.slice va (rdy S).length vc) (some (kP picks S.trace.length))) ?_ ?_
  · by_cases hlp : S.trace.length < picks.length
    · have hlpZ : (S.trace.length : Int) < (picks.length : Int) := by omega
      have hk0 : (0 : Int) ≤ (S.trace.length : Int) := by omega
      obtain ⟨b, ob, c, x, hv, hc, hx, hxk⟩ := (hp.of fun b x hb => (hR.keep b x hb).1).at_ (i := S.trace.length) (by simpa using hlp)
      rw [hpv, List.length_map] at hv
      simp only [Value.slice.injEq, true_and] at hv
      obtain ⟨rfl, rfl⟩ := hv
      simp only [List.getElem_map, iv] at hxk
      simp -implicitDefEqProofs (maxDischargeDepth := 6) (maxSteps := 1000000) only [go_sem, ↓reduceIte, Nat.reduceLT, Nat.reduceLeDiff, Nat.reduceEqDiff, Nat.reduceAdd, Nat.reduceMul, Nat.reduceSub, Nat.reduceBEq, reduceCtorEq, Int.reduceEq, Int.reduceLT, Int.reduceLE, Int.reduceNeg, Int.reduceToNat, f2, f3, f8, f11, f12, f13, nv, hcell, outB, goInt, hpv, hlpZ, hk0, hc, hx, hxk]
      refine ⟨rfl, rfl, rfl, ?_, ?_, ?_, ?_, ?_, ?_, ?_⟩
      rotate_right
      · rintro k hk
        cases hk
        have hkk : kP picks S.trace.length = picks[S.trace.length] := by unfold kP; rw [List.getElem?_eq_getElem hlp]
        simp -implicitDefEqProofs (maxDischargeDepth := 6) (maxSteps := 1000000) only [go_sem, ↓reduceIte, Nat.reduceLT, Nat.reduceLeDiff, Nat.reduceEqDiff, Nat.reduceAdd, Nat.reduceMul, Nat.reduceSub, Nat.reduceBEq, reduceCtorEq, Int.reduceEq, Int.reduceLT, Int.reduceLE, Int.reduceNeg, Int.reduceToNat, hkk]
      all_goals simp -implicitDefEqProofs (maxDischargeDepth := 6) (maxSteps := 1000000) only [go_sem, ↓reduceIte, Nat.reduceLT, Nat.reduceLeDiff, Nat.reduceEqDiff, Nat.reduceAdd, Nat.reduceMul, Nat.reduceSub, Nat.reduceBEq, reduceCtorEq, Int.reduceEq, Int.reduceLT, Int.reduceLE, Int.reduceNeg, Int.reduceToNat, f2, f3, f8, f11, f12, f13, nv, hpv]
    · have hlpZ : ¬ (S.trace.length : Int) < (picks.length : Int) := by omega
      simp -implicitDefEqProofs (maxDischargeDepth := 6) (maxSteps := 1000000) only [go_sem, ↓reduceIte, Nat.reduceLT, Nat.reduceLeDiff, Nat.reduceEqDiff, Nat.reduceAdd, Nat.reduceMul, Nat.reduceSub, Nat.reduceBEq, reduceCtorEq, Int.reduceEq, Int.reduceLT, Int.reduceLE, Int.reduceNeg, Int.reduceToNat, f2, f3, f8, f11, f12, f13, nv, hcell, outB, goInt, hpv, hlpZ]
      refine ⟨rfl, rfl, rfl, ?_, ?_, ?_, ?_, ?_, ?_, ?_⟩
      rotate_right
      · rintro k hk
        cases hk
        have hkk : kP picks S.trace.length = -1 := by unfold kP; rw [List.getElem?_eq_none (by omega)]
        simp -implicitDefEqProofs (maxDischargeDepth := 6) (maxSteps := 1000000) only [go_sem, ↓reduceIte, Nat.reduceLT, Nat.reduceLeDiff, Nat.reduceEqDiff, Nat.reduceAdd, Nat.reduceMul, Nat.reduceSub, Nat.reduceBEq, reduceCtorEq, Int.reduceEq, Int.reduceLT, Int.reduceLE, Int.reduceNeg, Int.reduceToNat, f14, hkk]
      all_goals simp -implicitDefEqProofs (maxDischargeDepth := 6) (maxSteps := 1000000) only [go_sem, ↓reduceIte, Nat.reduceLT, Nat.reduceLeDiff, Nat.reduceEqDiff, Nat.reduceAdd, Nat.reduceMul, Nat.reduceSub, Nat.reduceBEq, reduceCtorEq, Int.reduceEq, Int.reduceLT, Int.reduceLE, Int.reduceNeg, Int.reduceToNat, f2, f3, f8, f11, f12, f13, nv, hpv]
  clear f2 f3 f8 f11 f12 f13 f14
  rintro ⟨n, f, dd, G⟩ ⟨e1, e2, e3, f2, f3, f8, f11, f12, f13, f14⟩
  dsimp only at e1 e2 e3 f2 f3 f8 f11 f12 f13 f14
  subst e1 e2 e3
  have f14 := f14 _ rfl
  have hstr := hR.rf.x.st
  have hlast := hR.last
  have hN16 := hR.rf.n16
  have hrl := rlen_le S
  simp -implicitDefEqProofs (maxDischargeDepth := 6) (maxSteps := 1000000) only [go_sem, ↓reduceIte, Nat.reduceLT, Nat.reduceLeDiff, Nat.reduceEqDiff, Nat.reduceAdd, Nat.reduceMul, Nat.reduceSub, Nat.reduceBEq, reduceCtorEq, Int.reduceEq, Int.reduceLT, Int.reduceLE, Int.reduceNeg, Int.reduceToNat, f2, f3, f8, f11, f12, f13, f14, hstr, hlast]
  refine CW_mono _ (rpick_W hO.rd hem (by omega)) ?_
  rintro _ _ ⟨rfl, rfl⟩
  rw [pick_next hpo]
  have hmem := nextP_mem (last := S.last) (k := S.trace.length) (picks := picks) hem
  generalize hni : nextP S.last S.trace.length (rdy S) picks = i at hmem ⊢
  obtain ⟨hi, hh⟩ := mem_rdy.1 hmem
  obtain ⟨hat, hq, _⟩ := how_3 hh
  have kt : (stepM S i).trace.length = S.trace.length + 1 := by rw [(stepM_kp hi hat).trace]; simp [begS]
  have ktr : trC (stepM S i).trace = trC S.trace ++ [nv i, nv (S.tk i).at_] := by rw [(stepM_kp hi hat).trace]; simp [begS, trC_app, trC]
  have hT2 := hR.rf.rel.T i hi
  have hate : (M.T i).at_ = (((S.tk i).at_ : Nat) : Int) := hT2.at_eq hat
  obtain ⟨hts, hbo2, hbb, hx⟩ := hR.rf.x.ts (by omega)
  have hiZ : (i : Int) < (S.N : Int) := by omega
  have hi0 : (0 : Int) ≤ (i : Int) := by omega
  have hoc : ¬ openCap = 0 := by unfold openCap; omega
  have hnb := hR.rf.x.wf.1
  simp -implicitDefEqProofs (maxDischargeDepth := 6) (maxSteps := 1000000) only [go_sem, ↓reduceIte, Nat.reduceLT, Nat.reduceLeDiff, Nat.reduceEqDiff, Nat.reduceAdd, Nat.reduceMul, Nat.reduceSub, Nat.reduceBEq, reduceCtorEq, Int.reduceEq, Int.reduceLT, Int.reduceLE, Int.reduceNeg, Int.reduceToNat, f2, f3, f8, f11, f12, f13, nv, hcell, outB, hstr, hts, hx, hiZ, hi0, hoc, hi, hate]
  have hbol := hR.rf.x.wf.lt hcell
  have hEc := ((Ext.refl hR.rf.x.wf).bump 17).set (b := G.next + 12) (by omega) (by simp only [next_bump]; omega) (⟨39, 0, false, [nv i, nv (S.tk i).at_]⟩ : Blk)
  have hRc := hR.ext hEc
  have hTc := own_ext hR hT hEc
  have hBc := bk_ext hR hB hEc
  obtain ⟨H6, ha6, hw6, hn6, hk6, hO6⟩ := appP (bytes := 16) (nb := G.next + 12) (x := ⟨39, 0, false, [nv i, nv (S.tk i).at_]⟩) (vs := [nv i, nv (S.tk i).at_]) hRc.rf.x.wf hTc (get_set_eq (by omega)) rfl rfl (by omega) rfl (by omega) (by omega)
  generalize hGc : Heap.set (bump G 17) (G.next + 12) _ = Gc at *
  have hnc : Gc.next = G.next + 17 := by rw [← hGc]; simp only [next_set, next_bump]
  rw [hnc] at ha6
  simp only [nv] at hGc ha6
  simp only [hGc]
  refine Wk_vh ha6 ?_
  generalize RM.mk' M G Gc = Mc at *
  have hb6 := hk6 _ _ hBc.2.2 (.inr (by simp [outB]))
  simp -implicitDefEqProofs (maxDischargeDepth := 6) (maxSteps := 1000000) only [go_sem, ↓reduceIte, Nat.reduceLT, Nat.reduceLeDiff, Nat.reduceEqDiff, Nat.reduceAdd, Nat.reduceMul, Nat.reduceSub, Nat.reduceBEq, reduceCtorEq, Int.reduceEq, Int.reduceLT, Int.reduceLE, Int.reduceNeg, Int.reduceToNat, f11, f12, hb6, outB, hbo]
  have hbc := hRc.rf.x.wf.lt hBc.2.2
  have hwd : WF (H6.set bo (outB S.trace.length (.slice (some ⟨G.next + 17, 0, none⟩) (S.trace.length + 1) openCap) (.slice none 0 0) (.slice none 0 0) (.slice none 0 0))) := hw6.set (by omega) _
  have hRd := hRc.tr hwd (by rw [next_set]; omega) fun b x hb ho => by
    rw [get_set_ne (by rintro rfl; exact ho hBc.2.1)]
    exact hk6 b x hb (.inl fun h => ho h.2)
  have hBd := bk_tr hRc hBc (G' := H6.set bo (outB S.trace.length (.slice (some ⟨G.next + 17, 0, none⟩) (S.trace.length + 1) openCap) (.slice none 0 0) (.slice none 0 0) (.slice none 0 0))) (get_set_eq hbo)
  have hTd := own_new hRc hwd (hO6.frame fun b x hb hg => ⟨Nat.le_of_eq hb.symm, by rw [get_set_ne (by rw [hb]; omega)]; exact hg⟩)
  rw [hnc, ← ktr] at hTd
  simp only [outB, nv] at hRd hBd hTd
  generalize hGd : Heap.set H6 bo _ = Gd at *
  generalize RM.mk' Mc Gc Gd = Md at *
  refine CW_mono _ (hRd.step hi hh (by omega)) ?_
  rintro _ G2 ⟨rfl, M2, hR2, hk2⟩
  have hT2 := own_st hk2 hTd
  have hB2 := bk_st hk2 hBd
  have hb2 := hB2.2.2
  have hw1 : IntKind.i64.wrap ((S.trace.length : Int) + 1) = ((S.trace.length + 1 : Nat) : Int) := IntWalk.i64_in _ (by omega)
  simp -implicitDefEqProofs (maxDischargeDepth := 6) (maxSteps := 1000000) only [go_sem, ↓reduceIte, Nat.reduceLT, Nat.reduceLeDiff, Nat.reduceEqDiff, Nat.reduceAdd, Nat.reduceMul, Nat.reduceSub, Nat.reduceBEq, reduceCtorEq, Int.reduceEq, Int.reduceLT, Int.reduceLE, Int.reduceNeg, Int.reduceToNat, f11, f12, hb2, hbo, hw1]
  have hbl2 := hR2.rf.x.wf.lt hb2
  have hw3 : WF (G2.set bo (outB (S.trace.length + 1) (.slice (some ⟨G.next + 17, 0, none⟩) (S.trace.length + 1) openCap) (.slice none 0 0) (.slice none 0 0) (.slice none 0 0))) := hR2.rf.x.wf.set hbl2 _
  have hR3 := hR2.tr hw3 (by rw [next_set]; omega) fun b x hb ho => by
    rw [get_set_ne (by rintro rfl; exact ho hB2.2.1)]
    exact hb
  have hB3 := bk_tr hR2 hB2 (G' := G2.set bo (outB (S.trace.length + 1) (.slice (some ⟨G.next + 17, 0, none⟩) (S.trace.length + 1) openCap) (.slice none 0 0) (.slice none 0 0) (.slice none 0 0))) (get_set_eq hbo)
  have hT3 := own_tr (G' := G2.set bo (outB (S.trace.length + 1) (.slice (some ⟨G.next + 17, 0, none⟩) (S.trace.length + 1) openCap) (.slice none 0 0) (.slice none 0 0) (.slice none 0 0))) hR2 hT2 fun b x hb hx => by
    rw [get_set_ne]
    · exact hb
    · rintro rfl
      rw [hb2] at hb
      cases hb
      cases hx.1
  simp only [outB, nv] at hR3 hB3 hT3
  refine CW_mono _ (rready_W hR3.rf) ?_
  rintro _ G4 ⟨v', rfl, hE4, hO4⟩
  simp -implicitDefEqProofs (maxDischargeDepth := 6) (maxSteps := 1000000) only [go_sem, ↓reduceIte, Nat.reduceLT, Nat.reduceLeDiff, Nat.reduceEqDiff, Nat.reduceAdd, Nat.reduceMul, Nat.reduceSub, Nat.reduceBEq, reduceCtorEq, Int.reduceEq, Int.reduceLT, Int.reduceLE, Int.reduceNeg, Int.reduceToNat, f11]
  refine ⟨most - (stepM S i).trace.length, by omega, stepM S i, _, v', .slice (some ⟨G.next + 17, 0, none⟩) (S.trace.length + 1) openCap, rfl, by omega, ?_, ?_, ?_, ?_, ?_, ?_, hR3.ext hE4, own_new hR3 hE4.wf hO4, ?_, ?_, ?_⟩
  · simp only [Tr.get_put, Nat.reduceEqDiff, ↓reduceIte, f2]
  · simp only [Tr.get_put, Nat.reduceEqDiff, ↓reduceIte, f3, nv]
  · simp only [Tr.get_put, Nat.reduceEqDiff, ↓reduceIte, f8]
  · simp only [Tr.get_put, Nat.reduceEqDiff, ↓reduceIte, f11]
  · simp only [Tr.get_put, Nat.reduceEqDiff, ↓reduceIte, f12]
  · simp -implicitDefEqProofs (maxDischargeDepth := 6) (maxSteps := 1000000) only [go_sem, ↓reduceIte, Nat.reduceLT, Nat.reduceLeDiff, Nat.reduceEqDiff, Nat.reduceAdd, Nat.reduceMul, Nat.reduceSub, Nat.reduceBEq, reduceCtorEq, Int.reduceEq, Int.reduceLT, Int.reduceLE, Int.reduceNeg, Int.reduceToNat, ]
  · rw [kt]; exact own_ext hR3 hT3 hE4
  · rw [kt]; exact bk_ext hR3 hB3 hE4
  · rw [← hrun, hk1, runM, if_neg hem, hni, kt]
    congr 1
    omega
end Go.Am.T
namespace Go.Am.T
open Go Go.Am Go.Proofs.Ythanhcpnhionaaa Go.Proofs
theorem rwhy_R {H : Heap} {r : Nat} {M : RM} {S : Sx} (h : RfR H r M S) {k : Nat} (hlt : k < S.N) (hd : (S.tk k).died = false) (hat : (S.tk k).at_ < (S.tk k).acts.length) :
    CW Try.prog 27 #[.pointer (some ⟨r, 0, none⟩), nv k] H fun x H' => x = .ret (.int .i64 (if howS S k = 3 then 0 else howS S k)) ∧ Ext H H' := by
  have h1 := h.x
  obtain ⟨hts2, hbo, hbb, hx⟩ := h1.ts (by omega)
  have hT := h.rel.T k hlt
  have hV := h.ok.vs k hlt _ hat
  have ha := List.getElem?_eq_getElem hat
  have hql : ∀ j, j < 4 → ∃ a c, M.V.qs j = .slice a (S.queues j).length c := fun j hj => (h1.q j hj).sl
  have hwy := why_how h.rel h.wi hlt (V := M.V) rfl h.room ha hd h.lk
  rw [← hwy]
  exact why_W h1.wf h1.rb hbb (h1.ne (by omega)) h1.st hx hts2 hlt (h1.actsAt hlt) hat (hT.at_eq hat) hV (by
    intro e2
    obtain ⟨b, hb, hb3⟩ := h.wi.k3 k hlt (by rw [← hT.wait, e2]; decide)
    rw [ha] at hb; cases hb; exact hb3) (ql := fun j => (S.queues j).length) (qa := fun j => if hj : j < 4 then (hql j hj).choose else none) (qc := fun j => if hj : j < 4 then (hql j hj).choose_spec.choose else 0) (by
    intro j hj
    simp only [hj, dif_pos]
    exact (hql j hj).choose_spec.choose_spec)
theorem how_of {S : Sx} {i : Nat} (h : howT (S.tk i) ≠ 0) : howS S i = howT (S.tk i) := by
  unfold howT at h ⊢
  unfold howS howP
  have e : (tkV .nilIface (S.tk i)).at_.toNat = (S.tk i).at_ := by simp [tkV]
  have e2 : (tkV .nilIface (S.tk i)).died = (S.tk i).died := rfl
  rw [e, e2]
  cases hd : (S.tk i).died with
  | true => simp
  | false =>
    rw [hd] at h
    simp only [Bool.false_eq_true, if_false] at h ⊢
    by_cases hl : (S.tk i).acts.length ≤ (S.tk i).at_
    · rw [List.getElem?_eq_none hl, if_pos hl]
    · rw [if_neg hl] at h; exact absurd rfl h
theorem how_0 {S : Sx} {i : Nat} (h : howT (S.tk i) = 0) : (S.tk i).died = false ∧ (S.tk i).at_ < (S.tk i).acts.length ∧ howS S i ≠ 0 := by
  have hh : (S.tk i).died = false ∧ (S.tk i).at_ < (S.tk i).acts.length := by
    unfold howT at h
    cases hd : (S.tk i).died with
    | true => rw [hd] at h; simp at h
    | false =>
      rw [hd] at h
      refine ⟨rfl, Nat.lt_of_not_le fun hl => ?_⟩
      rw [if_neg (by simp), if_pos hl] at h; cases h
  refine ⟨hh.1, hh.2, fun e => ?_⟩
  rw [how_at hh.1 (List.getElem?_eq_getElem hh.2)] at e
  split at e
  · cases e
  · split at e
    · cases e
    · split at e
      · cases e
      · split at e <;> cases e
structure OutR (H0 : Heap) (r bo : Nat) (S : Sx) (trv rgv ev qs : Value) (k : Nat) (qv : Nat → Value) (i : Nat) (M : RM) (G : Heap) : Prop where
  rr : Rr H0 G r M S
  bk : Bk H0 M G bo (outB S.trace.length trv rgv ev qs)
  tr : OwnL (tb H0 M) G 2 39 trv S.trace.length (trC S.trace)
  regs : OwnL (tb H0 M) G 1 2 rgv 8 (regL S)
  qs : OwnL (tb H0 M) G 1 29 qs k ((List.range k).map qv)
  q : ∀ j, j < k → OwnL (tb H0 M) G 1 2 (qv j) (S.queues j).length ((S.queues j).map iv)
  ends : OwnL (tb H0 M) G 2 49 ev i ((List.range i).flatMap fun i => [iv (howS S i), iv (S.tk i).n])
section
variable {H0 G G' : Heap} {r bo : Nat} {S : Sx} {trv rgv ev qs : Value} {k i : Nat} {qv : Nat → Value} {M : RM}
theorem OutR.ext (h : OutR H0 r bo S trv rgv ev qs k qv i M G) (e : Ext G G') : OutR H0 r bo S trv rgv ev qs k qv i (M.mk' G G') G' :=
  ⟨h.rr.ext e, bk_ext h.rr h.bk e, own_ext h.rr h.tr e, own_ext h.rr h.regs e, own_ext h.rr h.qs e, fun j hj => own_ext h.rr (h.q j hj) e, own_ext h.rr h.ends e⟩
structure JQ (o r bo : Nat) (I : Heap → Prop) (s : St) : Prop where
  n : s.n = 160
  d : s.d = []
  f8 : s.f.get 8 = some (.pointer (some ⟨o, 0, none⟩))
  f11 : s.f.get 11 = some (.pointer (some ⟨r, 0, none⟩))
  f12 : s.f.get 12 = some (.pointer (some ⟨bo, 0, none⟩))
  h : I s.H
theorem run2 {o : Nat} (hbo : base0 ≤ bo) {st : List Fr} {Q : Ex → St → Prop} {f : Tr Value} (hq6 : ∀ j, (S.queues j).length ≤ 65536)
    (h8 : f.get 8 = some (.pointer (some ⟨o, 0, none⟩))) (h11 : f.get 11 = some (.pointer (some ⟨r, 0, none⟩))) (h12 : f.get 12 = some (.pointer (some ⟨bo, 0, none⟩))) (h16 : f.get 16 = some (nv 0))
    (hO : OutR H0 r bo S trv rgv ev (.slice none 0 0) 0 qv i M G) (hrg : ∃ a c, rgv = .slice a 8 c) (hev : ∃ a c, ev = .slice a i c) :
    Wk Try.prog (.c (.block 2 (.loop L13_2)) :: .i (JQ o r bo fun G' => ∃ M' qs qv, OutR H0 r bo S trv rgv ev qs 4 qv i M' G') :: st) (some ⟨160, f, [], G⟩) Q := by
  rw [Wk_block]
  refine Wk_loopF (fun m f G => ∃ k M qs qv, m = 4 - k ∧ k ≤ 4 ∧ f.get 8 = some (.pointer (some ⟨o, 0, none⟩)) ∧ f.get 11 = some (.pointer (some ⟨r, 0, none⟩)) ∧ f.get 12 = some (.pointer (some ⟨bo, 0, none⟩)) ∧ f.get 16 = some (nv k) ∧ OutR H0 r bo S trv rgv ev qs k qv i M G) 4
    ⟨0, M, _, qv, rfl, by omega, h8, h11, h12, h16, hO⟩ ?_
  clear hO h8 h11 h12 h16
  rintro m f G ⟨k, M, qs, qv, rfl, hk, f8, f11, f12, f16, hO⟩
  unfold L13_2
  by_cases hlt : k < 4
  case neg =>
    have hltZ : ¬ (k : Int) < 4 := by omega
    obtain rfl : k = 4 := by omega
    simp -implicitDefEqProofs (maxDischargeDepth := 6) (maxSteps := 1000000) only [go_sem, ↓reduceIte, Nat.reduceLT, Nat.reduceLeDiff, Nat.reduceEqDiff, Nat.reduceAdd, Nat.reduceMul, Nat.reduceSub, Nat.reduceBEq, reduceCtorEq, Int.reduceEq, Int.reduceLT, Int.reduceLE, Int.reduceNeg, Int.reduceToNat, f8, f11, f12, f16, nv, hltZ]
    refine ⟨rfl, rfl, ?_, ?_, ?_, M, qs, qv, hO⟩
    all_goals simp -implicitDefEqProofs (maxDischargeDepth := 6) (maxSteps := 1000000) only [go_sem, ↓reduceIte, Nat.reduceLT, Nat.reduceLeDiff, Nat.reduceEqDiff, Nat.reduceAdd, Nat.reduceMul, Nat.reduceSub, Nat.reduceBEq, reduceCtorEq, Int.reduceEq, Int.reduceLT, Int.reduceLE, Int.reduceNeg, Int.reduceToNat, f8, f11, f12]
  have hltZ : (k : Int) < 4 := by omega
  have hk0 : (0 : Int) ≤ (k : Int) := by omega
  have hw1 : IntKind.i64.wrap ((k : Int) + 1) = ((k + 1 : Nat) : Int) := IntWalk.i64_in _ (by omega)
  have hcell := hO.bk.2.2
  have hX := hO.rr.rf.x
  have hstr := hX.st
  have hnbG := hX.wf.1
  obtain ⟨qa, qc, hqk⟩ := (hX.q k hlt).sl
  obtain ⟨sa, sc, rfl⟩ := hO.qs.sl
  obtain ⟨ra, rc, rfl⟩ := hrg
  obtain ⟨ea, ec, rfl⟩ := hev
  obtain ⟨ta, tc, rfl⟩ := hO.tr.sl
  simp -implicitDefEqProofs (maxDischargeDepth := 6) (maxSteps := 1000000) only [go_sem, ↓reduceIte, Nat.reduceLT, Nat.reduceLeDiff, Nat.reduceEqDiff, Nat.reduceAdd, Nat.reduceMul, Nat.reduceSub, Nat.reduceBEq, reduceCtorEq, Int.reduceEq, Int.reduceLT, Int.reduceLE, Int.reduceNeg, Int.reduceToNat, f8, f11, f12, f16, nv, hltZ, hk0, hlt, hstr, hqk, hcell, outB]
  refine Wk_w_c rfl rfl ?_
  simp -implicitDefEqProofs (maxDischargeDepth := 6) (maxSteps := 1000000) only [go_sem, ↓reduceIte, Nat.reduceLT, Nat.reduceLeDiff, Nat.reduceEqDiff, Nat.reduceAdd, Nat.reduceMul, Nat.reduceSub, Nat.reduceBEq, reduceCtorEq, Int.reduceEq, Int.reduceLT, Int.reduceLE, Int.reduceNeg, Int.reduceToNat, f8, f11, f12, f16, nv, hltZ, hk0, hlt, hstr, hqk, hcell, outB]
  have hOq := hX.q k hlt
  rw [hqk] at hOq
  have hEb := Ext.bump (Ext.refl hX.wf) 14
  have hqb := hq6 k
  obtain ⟨v', G1, ha1, hE1', hv'⟩ := appNil (bytes := 8) hEb.wf (hOq.frame (p' := fun b => M.own b = some (.queue k)) fun b x hb hg => ⟨hb, hEb.of hX.wf hg⟩) (by omega) (by omega)
  refine cK_vh ha1 ?_
  obtain ⟨va, vc, rfl⟩ := hv'.sl
  have hcell1 := (hEb.trans hE1').of hX.wf hcell
  have hnb1' := hE1'.wf.1
  simp only [outB] at hcell1
  simp -implicitDefEqProofs (maxDischargeDepth := 6) (maxSteps := 1000000) only [go_sem, ↓reduceIte, Nat.reduceLT, Nat.reduceLeDiff, Nat.reduceEqDiff, Nat.reduceAdd, Nat.reduceMul, Nat.reduceSub, Nat.reduceBEq, reduceCtorEq, Int.reduceEq, Int.reduceLT, Int.reduceLE, Int.reduceNeg, Int.reduceToNat, f8, f11, f12]
  refine cK_some ?_ ?_
  · simp -implicitDefEqProofs (maxDischargeDepth := 6) (maxSteps := 1000000) only [go_sem, ↓reduceIte, Nat.reduceLT, Nat.reduceLeDiff, Nat.reduceEqDiff, Nat.reduceAdd, Nat.reduceMul, Nat.reduceSub, Nat.reduceBEq, reduceCtorEq, Int.reduceEq, Int.reduceLT, Int.reduceLE, Int.reduceNeg, Int.reduceToNat, reK, f8, f11, f12, hcell1]
  simp -implicitDefEqProofs (maxDischargeDepth := 6) (maxSteps := 1000000) only [go_sem, ↓reduceIte, Nat.reduceLT, Nat.reduceLeDiff, Nat.reduceEqDiff, Nat.reduceAdd, Nat.reduceMul, Nat.reduceSub, Nat.reduceBEq, reduceCtorEq, Int.reduceEq, Int.reduceLT, Int.reduceLE, Int.reduceNeg, Int.reduceToNat, f8, f11, f12, hcell1]
  refine Wk_w_c rfl rfl ?_
  simp -implicitDefEqProofs (maxDischargeDepth := 6) (maxSteps := 1000000) only [go_sem, ↓reduceIte, Nat.reduceLT, Nat.reduceLeDiff, Nat.reduceEqDiff, Nat.reduceAdd, Nat.reduceMul, Nat.reduceSub, Nat.reduceBEq, reduceCtorEq, Int.reduceEq, Int.reduceLT, Int.reduceLE, Int.reduceNeg, Int.reduceToNat, f8, f11, f12, hcell1]
  have hle1 : G.next + 14 ≤ G1.next := hE1'.le
  have hE2' := (hEb.trans hE1').set (b := G.next + 9) (by omega) (by omega) (⟨29, 0, false, [.slice va (S.queues k).length vc]⟩ : Blk)
  have hO2 := hO.ext hE2'
  have hv2 := own_new hO.rr hE2'.wf (hv'.frame (p' := fun b => G.next ≤ b) (H' := G1.set (G.next + 9) ⟨29, 0, false, [.slice va (S.queues k).length vc]⟩) fun b x hb hg => ⟨by
    have hb : G.next + 14 ≤ b := hb
    show G.next ≤ b
    omega, by
    have hb : G.next + 14 ≤ b := hb
    rw [get_set_ne (by omega)]; exact hg⟩)
  generalize hM2 : RM.mk' M G _ = M2 at hO2 hv2
  obtain ⟨G3, ha3, hw3, hn3, hk3, hqs3⟩ := appP (bytes := 24) (nb := G.next + 9) (x := ⟨29, 0, false, [.slice va (S.queues k).length vc]⟩) (vs := [.slice va (S.queues k).length vc]) hO2.rr.rf.x.wf hO2.qs (get_set_eq (by omega)) rfl rfl (by omega) rfl (by omega) (by omega)
  refine cK_vh ha3 ?_
  have hcell3 := hk3 _ _ hO2.bk.2.2 (.inr (by simp [outB]))
  have hnb3' := hw3.1
  simp only [next_set] at ha3 hqs3 hn3
  have hcell3' := hcell3
  simp only [outB] at hcell3'
  simp -implicitDefEqProofs (maxDischargeDepth := 6) (maxSteps := 1000000) only [go_sem, ↓reduceIte, Nat.reduceLT, Nat.reduceLeDiff, Nat.reduceEqDiff, Nat.reduceAdd, Nat.reduceMul, Nat.reduceSub, Nat.reduceBEq, reduceCtorEq, Int.reduceEq, Int.reduceLT, Int.reduceLE, Int.reduceNeg, Int.reduceToNat, f8, f11, f12, hcell3']
  refine Wk_w_c rfl rfl ?_
  simp -implicitDefEqProofs (maxDischargeDepth := 6) (maxSteps := 1000000) only [go_sem, ↓reduceIte, Nat.reduceLT, Nat.reduceLeDiff, Nat.reduceEqDiff, Nat.reduceAdd, Nat.reduceMul, Nat.reduceSub, Nat.reduceBEq, reduceCtorEq, Int.reduceEq, Int.reduceLT, Int.reduceLE, Int.reduceNeg, Int.reduceToNat, f8, f11, f12, f16, nv, hcell3', hbo, hw1]
  have hbl : bo < G1.next := by
    have := hO2.rr.rf.x.wf.lt hO2.bk.2.2
    simpa only [next_set] using this
  have hw4 : WF (G3.set bo (outB S.trace.length (.slice ta S.trace.length tc) (.slice ra 8 rc) (.slice ea i ec) (.slice (some ⟨G1.next, 0, none⟩) (k + 1) openCap))) := hw3.set (by omega) _
  have kp : ∀ {es ty n : Nat} {v : Value} {cs : List Value}, ty ≠ 29 → OwnL (tb H0 M2) (G1.set (G.next + 9) ⟨29, 0, false, [.slice va (S.queues k).length vc]⟩) es ty v n cs →
      OwnL (tb H0 (M2.mk' (G1.set (G.next + 9) ⟨29, 0, false, [.slice va (S.queues k).length vc]⟩) (G3.set bo (outB S.trace.length (.slice ta S.trace.length tc) (.slice ra 8 rc) (.slice ea i ec) (.slice (some ⟨G1.next, 0, none⟩) (k + 1) openCap)))))
        (G3.set bo (outB S.trace.length (.slice ta S.trace.length tc) (.slice ra 8 rc) (.slice ea i ec) (.slice (some ⟨G1.next, 0, none⟩) (k + 1) openCap))) es ty v n cs := by
    intro es ty n v cs hty ho
    refine own_tr hO2.rr ho fun b x hb hx => ?_
    have hg3 := hk3 _ _ hb (.inr fun h => hty (hx.2.symm.trans h.2))
    rw [get_set_ne]
    · exact hg3
    · rintro rfl
      rw [hcell3] at hg3; cases hg3; cases hx.1
  refine ⟨4 - (k + 1), by omega, k + 1, _, .slice (some ⟨G1.next, 0, none⟩) (k + 1) openCap, upd qv k (.slice va (S.queues k).length vc), rfl, by omega, ?_, ?_, ?_, ?_,
    hO2.rr.tr hw4 (by rw [next_set, next_set]; omega) ?_, bk_tr hO2.rr hO2.bk (get_set_eq hbo), kp (by omega) hO2.tr, kp (by omega) hO2.regs, ?_, ?_, kp (by omega) hO2.ends⟩
  · simp only [Tr.get_put, Nat.reduceEqDiff, ↓reduceIte, f8]
  · simp only [Tr.get_put, Nat.reduceEqDiff, ↓reduceIte, f11]
  · simp only [Tr.get_put, Nat.reduceEqDiff, ↓reduceIte, f12]
  · simp only [Tr.get_put, Nat.reduceEqDiff, ↓reduceIte, nv]
  · intro b x hb ho
    rw [get_set_ne (by rintro rfl; exact ho hO2.bk.2.1)]
    exact hk3 b x hb (.inl fun h => ho h.2)
  · rw [List.range_succ, List.map_append]
    have e1 : (List.range k).map (upd qv k (.slice va (S.queues k).length vc)) = (List.range k).map qv := by
      apply List.map_congr_left
      intro j hj
      exact upd_ne (by have := List.mem_range.1 hj; omega)
    rw [e1]
    simp only [List.map_cons, List.map_nil, upd_same]
    refine own_new hO2.rr hw4 (hqs3.frame fun b x hb hg => ⟨?_, ?_⟩)
    · rw [hb, next_set]; exact Nat.le_refl _
    · rw [get_set_ne (by rw [hb]; omega)]; exact hg
  · intro j hj
    by_cases e : j = k
    · subst e; rw [upd_same]; exact kp (by omega) hv2
    · rw [upd_ne e]; exact kp (by omega) (hO2.q j (by omega))
end
end Go.Am.T
namespace Go.Am.T
open Go Go.Am Go.Proofs.Ythanhcpnhionaaa Go.Proofs
structure JE (G : Heap) (x o r bo i : Nat) (h w : Int) (s : St) : Prop where
  n : s.n = 160
  d : s.d = []
  f8 : s.f.get 8 = some (.pointer (some ⟨o, 0, none⟩))
  f11 : s.f.get 11 = some (.pointer (some ⟨r, 0, none⟩))
  f12 : s.f.get 12 = some (.pointer (some ⟨bo, 0, none⟩))
  f17 : s.f.get 17 = some (nv i)
  f18 : s.f.get 18 = some (.pointer (some ⟨x, 0, none⟩))
  ext : Ext G s.H
  c : s.H.get x = some ⟨49, 0, false, [iv h, iv w]⟩
structure JT (G : Heap) (o r bo i : Nat) (s : St) : Prop where
  n : s.n = 160
  d : s.d = []
  h : s.H = G
  f8 : s.f.get 8 = some (.pointer (some ⟨o, 0, none⟩))
  f11 : s.f.get 11 = some (.pointer (some ⟨r, 0, none⟩))
  f12 : s.f.get 12 = some (.pointer (some ⟨bo, 0, none⟩))
  f17 : s.f.get 17 = some (nv i)
section
variable {H0 G G' : Heap} {r bo : Nat} {S : Sx} {trv rgv ev qs : Value} {i : Nat} {qv : Nat → Value} {M : RM}
theorem run3 {o : Nat} (hbo : base0 ≤ bo) {st : List Fr} {Q : Ex → St → Prop} {f : Tr Value}
    (h8 : f.get 8 = some (.pointer (some ⟨o, 0, none⟩))) (h11 : f.get 11 = some (.pointer (some ⟨r, 0, none⟩))) (h12 : f.get 12 = some (.pointer (some ⟨bo, 0, none⟩))) (h17 : f.get 17 = some (nv 0))
    (hO : OutR H0 r bo S trv rgv (.slice none 0 0) qs 4 qv 0 M G) (hrg : ∃ a c, rgv = .slice a 8 c) :
    Wk Try.prog (.c (.block 4 (.loop L13_3)) :: .i (JQ o r bo fun G' => ∃ M' ev, OutR H0 r bo S trv rgv ev qs 4 qv S.N M' G') :: st) (some ⟨160, f, [], G⟩) Q := by
  rw [Wk_block]
  refine Wk_loopF (fun m f G => ∃ i M ev, m = S.N - i ∧ i ≤ S.N ∧ f.get 8 = some (.pointer (some ⟨o, 0, none⟩)) ∧ f.get 11 = some (.pointer (some ⟨r, 0, none⟩)) ∧ f.get 12 = some (.pointer (some ⟨bo, 0, none⟩)) ∧ f.get 17 = some (nv i) ∧ OutR H0 r bo S trv rgv ev qs 4 qv i M G) S.N
    ⟨0, M, _, rfl, by omega, h8, h11, h12, h17, hO⟩ ?_
  clear hO h8 h11 h12 h17
  rintro m f G ⟨i, M, ev, rfl, hi, f8, f11, f12, f17, hO⟩
  unfold L13_3
  have hX := hO.rr.rf.x
  have hstr := hX.st
  have hn16 := hO.rr.rf.n16
  obtain ⟨tsa, tsc, hts⟩ : ∃ a c, M.V.tasks = .slice a S.N c := by
    by_cases e : S.N = 0
    · obtain ⟨a, c, q⟩ := hX.ts0 e
      exact ⟨a, c, by rw [e]; exact q⟩
    · exact ⟨_, _, (hX.ts e).1⟩
  by_cases hlt : i < S.N
  case neg =>
    have hltZ : ¬ (i : Int) < (S.N : Int) := by omega
    obtain rfl : i = S.N := by omega
    simp -implicitDefEqProofs (maxDischargeDepth := 6) (maxSteps := 1000000) only [go_sem, ↓reduceIte, Nat.reduceLT, Nat.reduceLeDiff, Nat.reduceEqDiff, Nat.reduceAdd, Nat.reduceMul, Nat.reduceSub, Nat.reduceBEq, reduceCtorEq, Int.reduceEq, Int.reduceLT, Int.reduceLE, Int.reduceNeg, Int.reduceToNat, f8, f11, f12, f17, nv, hstr, hts, hltZ, goInt]
    refine ⟨rfl, rfl, ?_, ?_, ?_, M, ev, hO⟩
    all_goals simp -implicitDefEqProofs (maxDischargeDepth := 6) (maxSteps := 1000000) only [go_sem, ↓reduceIte, Nat.reduceLT, Nat.reduceLeDiff, Nat.reduceEqDiff, Nat.reduceAdd, Nat.reduceMul, Nat.reduceSub, Nat.reduceBEq, reduceCtorEq, Int.reduceEq, Int.reduceLT, Int.reduceLE, Int.reduceNeg, Int.reduceToNat, f8, f11, f12]
  have hltZ : (i : Int) < (S.N : Int) := by omega
  have hi0 : (0 : Int) ≤ (i : Int) := by omega
  have hw1 : IntKind.i64.wrap ((i : Int) + 1) = ((i + 1 : Nat) : Int) := IntWalk.i64_in _ (by omega)
  have hcell := hO.bk.2.2
  have hnbG := hX.wf.1
  obtain ⟨hts2, hbo2, hbb, hx⟩ := hX.ts (by omega)
  rw [hts2] at hts
  simp only [Value.slice.injEq, true_and] at hts
  obtain ⟨rfl, rfl⟩ := hts
  have hoc : ¬ openCap = 0 := by unfold openCap; omega
  have hT := hO.rr.rf.rel.T i hlt
  obtain ⟨sa, sc, rfl⟩ := hO.qs.sl
  obtain ⟨ra, rc, rfl⟩ := hrg
  obtain ⟨ea, ec, rfl⟩ := hO.ends.sl
  obtain ⟨ta, tc, rfl⟩ := hO.tr.sl
  have hrl := hX.wf.lt hstr
  have hbl := hX.wf.lt hx
  rw [Wk_seq]
  refine Wk_cut (JT G o r bo i) ?_ ?_
  · simp -implicitDefEqProofs (maxDischargeDepth := 6) (maxSteps := 1000000) only [go_sem, ↓reduceIte, Nat.reduceLT, Nat.reduceLeDiff, Nat.reduceEqDiff, Nat.reduceAdd, Nat.reduceMul, Nat.reduceSub, Nat.reduceBEq, reduceCtorEq, Int.reduceEq, Int.reduceLT, Int.reduceLE, Int.reduceNeg, Int.reduceToNat, f8, f11, f12, f17, nv, hstr, hts2, hltZ, goInt]
    refine ⟨rfl, rfl, rfl, ?_, ?_, ?_, ?_⟩
    all_goals simp -implicitDefEqProofs (maxDischargeDepth := 6) (maxSteps := 1000000) only [go_sem, ↓reduceIte, Nat.reduceLT, Nat.reduceLeDiff, Nat.reduceEqDiff, Nat.reduceAdd, Nat.reduceMul, Nat.reduceSub, Nat.reduceBEq, reduceCtorEq, Int.reduceEq, Int.reduceLT, Int.reduceLE, Int.reduceNeg, Int.reduceToNat, f8, f11, f12, f17, nv]
  clear f8 f11 f12 f17
  rintro ⟨n, f, dd, G'⟩ ⟨e1, e2, e3, f8, f11, f12, f17⟩
  dsimp only at e1 e2 e3 f8 f11 f12 f17
  subst e1 e2 e3
  rw [Wk_seq, Wk_block, Wk_seq]
  refine Wk_cut (JE G' (G'.next + 17) o r bo i (M.T i).how (M.T i).n) ?_ ?_
  · simp -implicitDefEqProofs (maxDischargeDepth := 6) (maxSteps := 1000000) only [go_sem, ↓reduceIte, Nat.reduceLT, Nat.reduceLeDiff, Nat.reduceEqDiff, Nat.reduceAdd, Nat.reduceMul, Nat.reduceSub, Nat.reduceBEq, reduceCtorEq, Int.reduceEq, Int.reduceLT, Int.reduceLE, Int.reduceNeg, Int.reduceToNat, f8, f11, f12, f17, nv, hstr, hts2, hltZ, hi0, hoc, hx, hlt, loads_eq, hrl, hbl, hnbG]
    refine ⟨rfl, rfl, ?_, ?_, ?_, ?_, ?_, ((Ext.refl hX.wf).bump 20).set (by omega) (by simp only [next_bump]; omega) _, get_set_eq (by omega)⟩
    all_goals simp -implicitDefEqProofs (maxDischargeDepth := 6) (maxSteps := 1000000) only [go_sem, ↓reduceIte, Nat.reduceLT, Nat.reduceLeDiff, Nat.reduceEqDiff, Nat.reduceAdd, Nat.reduceMul, Nat.reduceSub, Nat.reduceBEq, reduceCtorEq, Int.reduceEq, Int.reduceLT, Int.reduceLE, Int.reduceNeg, Int.reduceToNat, f8, f11, f12, f17, nv]
  clear f8 f11 f12 f17
  rintro ⟨n, f, dd, G1⟩ ⟨e1, e2, f8, f11, f12, f17, f18, hE1, hc1⟩
  dsimp only at e1 e2 f8 f11 f12 f17 f18 hE1 hc1
  subst e1 e2
  have hxb : base0 ≤ G'.next + 17 := by omega
  have hxl := hE1.wf.lt hc1
  rw [Wk_seq]
  refine Wk_cut (JE G' (G'.next + 17) o r bo i (if (M.T i).how = 0 then (if howS S i = 3 then 0 else howS S i) else (M.T i).how) (M.T i).n) ?_ ?_
  · by_cases c : (M.T i).how = 0
    · obtain ⟨hd, hat, _⟩ := how_0 (hT.how ▸ c)
      simp -implicitDefEqProofs (maxDischargeDepth := 6) (maxSteps := 1000000) only [go_sem, ↓reduceIte, Nat.reduceLT, Nat.reduceLeDiff, Nat.reduceEqDiff, Nat.reduceAdd, Nat.reduceMul, Nat.reduceSub, Nat.reduceBEq, reduceCtorEq, Int.reduceEq, Int.reduceLT, Int.reduceLE, Int.reduceNeg, Int.reduceToNat, f8, f11, f12, f17, f18, hc1, iv, c]
      refine CW_mono _ (rwhy_R (hO.rr.ext hE1).rf hlt hd hat) ?_
      rintro _ G2 ⟨rfl, hE2⟩
      have hc2 := hE2.of hE1.wf hc1
      simp -implicitDefEqProofs (maxDischargeDepth := 6) (maxSteps := 1000000) only [go_sem, ↓reduceIte, Nat.reduceLT, Nat.reduceLeDiff, Nat.reduceEqDiff, Nat.reduceAdd, Nat.reduceMul, Nat.reduceSub, Nat.reduceBEq, reduceCtorEq, Int.reduceEq, Int.reduceLT, Int.reduceLE, Int.reduceNeg, Int.reduceToNat, f8, f11, f12, f17, f18, hc2, iv, hxb]
      refine ⟨rfl, rfl, ?_, ?_, ?_, ?_, ?_, (hE1.trans hE2).set (by omega) (Nat.lt_of_lt_of_le hxl hE2.le) _, get_set_eq hxb⟩
      all_goals simp -implicitDefEqProofs (maxDischargeDepth := 6) (maxSteps := 1000000) only [go_sem, ↓reduceIte, Nat.reduceLT, Nat.reduceLeDiff, Nat.reduceEqDiff, Nat.reduceAdd, Nat.reduceMul, Nat.reduceSub, Nat.reduceBEq, reduceCtorEq, Int.reduceEq, Int.reduceLT, Int.reduceLE, Int.reduceNeg, Int.reduceToNat, f8, f11, f12, f17, f18, nv]
    · simp -implicitDefEqProofs (maxDischargeDepth := 6) (maxSteps := 1000000) only [go_sem, ↓reduceIte, Nat.reduceLT, Nat.reduceLeDiff, Nat.reduceEqDiff, Nat.reduceAdd, Nat.reduceMul, Nat.reduceSub, Nat.reduceBEq, reduceCtorEq, Int.reduceEq, Int.reduceLT, Int.reduceLE, Int.reduceNeg, Int.reduceToNat, f8, f11, f12, f17, f18, hc1, iv, c]
      refine ⟨rfl, rfl, ?_, ?_, ?_, ?_, ?_, hE1, hc1⟩
      all_goals simp -implicitDefEqProofs (maxDischargeDepth := 6) (maxSteps := 1000000) only [go_sem, ↓reduceIte, Nat.reduceLT, Nat.reduceLeDiff, Nat.reduceEqDiff, Nat.reduceAdd, Nat.reduceMul, Nat.reduceSub, Nat.reduceBEq, reduceCtorEq, Int.reduceEq, Int.reduceLT, Int.reduceLE, Int.reduceNeg, Int.reduceToNat, f8, f11, f12, f17, f18, nv]
  clear f8 f11 f12 f17 f18 hc1 hxl hE1
  rintro ⟨n, f, dd, G1⟩ ⟨e1, e2, f8, f11, f12, f17, f18, hE1, hc1⟩
  dsimp only at e1 e2 f8 f11 f12 f17 f18 hE1 hc1
  subst e1 e2
  have hxl := hE1.wf.lt hc1
  rw [Wk_seq]
  refine Wk_cut (JE G' (G'.next + 17) o r bo i (howS S i) (M.T i).n) ?_ ?_
  · by_cases c : (M.T i).how = 0
    · obtain ⟨hd, hat, h0⟩ := how_0 (hT.how ▸ c)
      by_cases c3 : howS S i = 3
      · rw [if_pos c, if_pos c3] at hc1
        rw [c3]
        simp -implicitDefEqProofs (maxDischargeDepth := 6) (maxSteps := 1000000) only [go_sem, ↓reduceIte, Nat.reduceLT, Nat.reduceLeDiff, Nat.reduceEqDiff, Nat.reduceAdd, Nat.reduceMul, Nat.reduceSub, Nat.reduceBEq, reduceCtorEq, Int.reduceEq, Int.reduceLT, Int.reduceLE, Int.reduceNeg, Int.reduceToNat, f8, f11, f12, f17, f18, hc1, iv, hxb]
        refine ⟨rfl, rfl, ?_, ?_, ?_, ?_, ?_, hE1.set (by omega) hxl _, get_set_eq hxb⟩
        all_goals simp -implicitDefEqProofs (maxDischargeDepth := 6) (maxSteps := 1000000) only [go_sem, ↓reduceIte, Nat.reduceLT, Nat.reduceLeDiff, Nat.reduceEqDiff, Nat.reduceAdd, Nat.reduceMul, Nat.reduceSub, Nat.reduceBEq, reduceCtorEq, Int.reduceEq, Int.reduceLT, Int.reduceLE, Int.reduceNeg, Int.reduceToNat, f8, f11, f12, f17, f18, nv]
      · rw [if_pos c, if_neg c3] at hc1
        simp -implicitDefEqProofs (maxDischargeDepth := 6) (maxSteps := 1000000) only [go_sem, ↓reduceIte, Nat.reduceLT, Nat.reduceLeDiff, Nat.reduceEqDiff, Nat.reduceAdd, Nat.reduceMul, Nat.reduceSub, Nat.reduceBEq, reduceCtorEq, Int.reduceEq, Int.reduceLT, Int.reduceLE, Int.reduceNeg, Int.reduceToNat, f8, f11, f12, f17, f18, hc1, iv, h0]
        refine ⟨rfl, rfl, ?_, ?_, ?_, ?_, ?_, hE1, hc1⟩
        all_goals simp -implicitDefEqProofs (maxDischargeDepth := 6) (maxSteps := 1000000) only [go_sem, ↓reduceIte, Nat.reduceLT, Nat.reduceLeDiff, Nat.reduceEqDiff, Nat.reduceAdd, Nat.reduceMul, Nat.reduceSub, Nat.reduceBEq, reduceCtorEq, Int.reduceEq, Int.reduceLT, Int.reduceLE, Int.reduceNeg, Int.reduceToNat, f8, f11, f12, f17, f18, nv]
    · have hh : howS S i = (M.T i).how := by rw [hT.how]; exact how_of (hT.how ▸ c)
      rw [if_neg c] at hc1
      rw [hh]
      simp -implicitDefEqProofs (maxDischargeDepth := 6) (maxSteps := 1000000) only [go_sem, ↓reduceIte, Nat.reduceLT, Nat.reduceLeDiff, Nat.reduceEqDiff, Nat.reduceAdd, Nat.reduceMul, Nat.reduceSub, Nat.reduceBEq, reduceCtorEq, Int.reduceEq, Int.reduceLT, Int.reduceLE, Int.reduceNeg, Int.reduceToNat, f8, f11, f12, f17, f18, hc1, iv, c]
      refine ⟨rfl, rfl, ?_, ?_, ?_, ?_, ?_, hE1, hc1⟩
      all_goals simp -implicitDefEqProofs (maxDischargeDepth := 6) (maxSteps := 1000000) only [go_sem, ↓reduceIte, Nat.reduceLT, Nat.reduceLeDiff, Nat.reduceEqDiff, Nat.reduceAdd, Nat.reduceMul, Nat.reduceSub, Nat.reduceBEq, reduceCtorEq, Int.reduceEq, Int.reduceLT, Int.reduceLE, Int.reduceNeg, Int.reduceToNat, f8, f11, f12, f17, f18, nv]
  clear f8 f11 f12 f17 f18 hc1 hxl hE1
  rintro ⟨n, f, dd, G1⟩ ⟨e1, e2, f8, f11, f12, f17, f18, hE1, hc1⟩
  dsimp only at e1 e2 f8 f11 f12 f17 f18 hE1 hc1
  subst e1 e2
  rw [hT.n] at hc1
  have hcb1 := hE1.of hX.wf hcell
  have hnb1 := hE1.wf.1
  simp only [outB] at hcb1
  simp -implicitDefEqProofs (maxDischargeDepth := 6) (maxSteps := 1000000) only [go_sem, ↓reduceIte, Nat.reduceLT, Nat.reduceLeDiff, Nat.reduceEqDiff, Nat.reduceAdd, Nat.reduceMul, Nat.reduceSub, Nat.reduceBEq, reduceCtorEq, Int.reduceEq, Int.reduceLT, Int.reduceLE, Int.reduceNeg, Int.reduceToNat, f8, f11, f12, f17, f18, hc1, hcb1, iv, loads_eq, hnb1]
  have hE2 := hE1.alloc (⟨49, 0, false, [iv (howS S i), iv (S.tk i).n]⟩ : Blk)
  have hO2 := hO.ext hE2
  generalize hM2 : RM.mk' M G' _ = M2 at hO2
  obtain ⟨G3, ha3, hw3, hn3, hk3, hqs3⟩ := appP (bytes := 16) (nb := G1.next) (x := ⟨49, 0, false, [iv (howS S i), iv (S.tk i).n]⟩) (vs := [iv (howS S i), iv (S.tk i).n]) hO2.rr.rf.x.wf hO2.ends (get_alloc_eq hnb1) rfl rfl (by omega) rfl (by omega) (by omega)
  refine Wk_vh ha3 ?_
  have hcell3 := hk3 _ _ hO2.bk.2.2 (.inr (by simp [outB]))
  simp only [next_alloc] at ha3 hqs3 hn3
  have hcell3' := hcell3
  simp only [outB] at hcell3'
  simp -implicitDefEqProofs (maxDischargeDepth := 6) (maxSteps := 1000000) only [go_sem, ↓reduceIte, Nat.reduceLT, Nat.reduceLeDiff, Nat.reduceEqDiff, Nat.reduceAdd, Nat.reduceMul, Nat.reduceSub, Nat.reduceBEq, reduceCtorEq, Int.reduceEq, Int.reduceLT, Int.reduceLE, Int.reduceNeg, Int.reduceToNat, f8, f11, f12, f17, nv, hcell3', hbo, hw1]
  have hbl' : bo < G1.next + 1 := by
    have := hO2.rr.rf.x.wf.lt hO2.bk.2.2
    simpa only [next_alloc] using this
  have hw4 : WF (G3.set bo (outB S.trace.length (.slice ta S.trace.length tc) (.slice ra 8 rc) (.slice (some ⟨G1.next + 1, 0, none⟩) (i + 1) openCap) (.slice sa 4 sc))) := hw3.set (by omega) _
  have kp : ∀ {es ty n : Nat} {v : Value} {cs : List Value}, ty ≠ 49 → OwnL (tb H0 M2) (G1.alloc ⟨49, 0, false, [iv (howS S i), iv (S.tk i).n]⟩) es ty v n cs →
      OwnL (tb H0 (M2.mk' (G1.alloc ⟨49, 0, false, [iv (howS S i), iv (S.tk i).n]⟩) (G3.set bo (outB S.trace.length (.slice ta S.trace.length tc) (.slice ra 8 rc) (.slice (some ⟨G1.next + 1, 0, none⟩) (i + 1) openCap) (.slice sa 4 sc)))))
        (G3.set bo (outB S.trace.length (.slice ta S.trace.length tc) (.slice ra 8 rc) (.slice (some ⟨G1.next + 1, 0, none⟩) (i + 1) openCap) (.slice sa 4 sc))) es ty v n cs := by
    intro es ty n v cs hty ho
    refine own_tr hO2.rr ho fun b x hb hx => ?_
    have hg3 := hk3 _ _ hb (.inr fun h => hty (hx.2.symm.trans h.2))
    rw [get_set_ne]
    · exact hg3
    · rintro rfl
      rw [hcell3] at hg3; cases hg3; cases hx.1
  refine ⟨S.N - (i + 1), by omega, i + 1, _, .slice (some ⟨G1.next + 1, 0, none⟩) (i + 1) openCap, rfl, by omega, ?_, ?_, ?_, ?_,
    hO2.rr.tr hw4 (by rw [next_set, next_alloc]; omega) ?_, bk_tr hO2.rr hO2.bk (get_set_eq hbo), kp (by omega) hO2.tr, kp (by omega) hO2.regs, kp (by omega) hO2.qs, fun j hj => kp (by omega) (hO2.q j hj), ?_⟩
  · simp only [Tr.get_put, Nat.reduceEqDiff, ↓reduceIte, f8]
  · simp only [Tr.get_put, Nat.reduceEqDiff, ↓reduceIte, f11]
  · simp only [Tr.get_put, Nat.reduceEqDiff, ↓reduceIte, f12]
  · simp only [Tr.get_put, Nat.reduceEqDiff, ↓reduceIte, nv]
  · intro b x hb ho
    rw [get_set_ne (by rintro rfl; exact ho hO2.bk.2.1)]
    exact hk3 b x hb (.inl fun h => ho h.2)
  · rw [List.range_succ, List.flatMap_append]
    simp only [List.flatMap_cons, List.flatMap_nil, List.append_nil]
    refine own_new hO2.rr hw4 (hqs3.frame fun b x hb hg => ⟨?_, ?_⟩)
    · rw [hb, next_alloc]; exact Nat.le_refl _
    · rw [get_set_ne (by rw [hb]; omega)]; exact hg
end
end Go.Am.T
namespace Go.Am.T
open Go Go.Am Go.Proofs.Ythanhcpnhionaaa Go.Proofs
def RRunPost (H : Heap) (ts : List (List Act)) (room : Int) (picks : List Int) (most : Int) (x : CR) (H' : Heap) : Prop :=
  Kep H H' ∧ (askedP ts room picks most ≠ 0 → x = .ret (.tuple #[.agg #[.int .i64 0, .slice none 0 0, .slice none 0 0, .slice none 0 0, .slice none 0 0], .int .i64 (askedP ts room picks most)])) ∧
    (askedP ts room picks most = 0 → ∃ trv rgv ev qsv qv, x = .ret (.tuple #[.agg #[nv (runM most.toNat (S0 ts room) picks).trace.length, trv, rgv, ev, qsv], .int .i64 0]) ∧ RanAt H.next H' (runM most.toNat (S0 ts room) picks) trv rgv ev qsv qv)
theorem RRunPost.bad {H H' : Heap} {ts : List (List Act)} {room : Int} {picks : List Int} {most e : Int} (h : askedP ts room picks most = e) (he : e ≠ 0) (k : Kep H H') :
    RRunPost H ts room picks most (.ret (.tuple #[.agg #[.int .i64 0, .slice none 0 0, .slice none 0 0, .slice none 0 0, .slice none 0 0], .int .i64 e])) H' := by
  subst h
  exact ⟨k, fun _ => rfl, fun h => absurd h he⟩
theorem firstA_regsR {H : Heap} {r : Nat} {V : StV} (h : H.get r = some (stB V)) : firstA H 1 8 (.slice (some ⟨r, 13, none⟩) 8 8) = some ((List.range 8).map fun j => iv (V.regs j)) := by
  show (if 8 = 0 then some [] else if 8 = 0 then none else H.loads ⟨r, 13, none⟩ (8 * 1)) = _
  rw [if_neg (by omega), if_neg (by omega), loads_eq, h]
  rfl
theorem rRun_W {H : Heap} (hw : WF H) {tv pv : Value} {ts : List (List Act)} {av : Nat → Value} (ht : TasksAt H tv ts av) (hN : ts.length ≤ 70368744177664) {room most : Int} {picks : List Int} (hp : RdI H pv (picks.map iv)) :
    CW Try.prog 13 #[tv, .int .i64 room, pv, .int .i64 most] H (RRunPost H ts room picks most) := by
  refine CW_k (n := 160) if13 rfl ?_
  unfold C13
  have hnb := hw.1
  have hE0 := (Ext.refl hw).alloc (⟨33, 0, false, [.int .i64 0, .slice none 0 0, .slice none 0 0, .slice none 0 0, .slice none 0 0]⟩ : Blk)
  have hpz := hp.of fun b x hb => hE0.of hw hb
  simp -implicitDefEqProofs (maxDischargeDepth := 6) (maxSteps := 1000000) only [go_sem, ↓reduceIte, Nat.reduceLT, Nat.reduceLeDiff, Nat.reduceEqDiff, Nat.reduceAdd, Nat.reduceMul, Nat.reduceSub, Nat.reduceBEq, reduceCtorEq, Int.reduceEq, Int.reduceLT, Int.reduceLE, Int.reduceNeg, Int.reduceToNat, hnb]
  have hzc := get_alloc_eq (x := (⟨33, 0, false, [.int .i64 0, .slice none 0 0, .slice none 0 0, .slice none 0 0, .slice none 0 0]⟩ : Blk)) hnb
  have hnz : (H.alloc (⟨33, 0, false, [.int .i64 0, .slice none 0 0, .slice none 0 0, .slice none 0 0, .slice none 0 0]⟩ : Blk)).next = H.next + 1 := next_alloc
  have htz := ht.of hw hE0
  generalize hHz : H.alloc _ = Hz at *
  refine CW_mono _ (rasked_W hE0.wf htz hN (room := room) hpz) ?_
  rintro _ H1 ⟨rfl, hE1⟩
  have hcz1 := hE1.of hE0.wf hzc
  have hasked := askedP_of (ts := ts) (room := room) (most := most) (picks := picks)
  have hzl := hE1.wf.lt hcz1
  by_cases h0 : askedP ts room picks 0 = 0
  case neg =>
    rw [if_pos h0] at hasked
    simp -implicitDefEqProofs (maxDischargeDepth := 6) (maxSteps := 1000000) only [go_sem, ↓reduceIte, Nat.reduceLT, Nat.reduceLeDiff, Nat.reduceEqDiff, Nat.reduceAdd, Nat.reduceMul, Nat.reduceSub, Nat.reduceBEq, reduceCtorEq, Int.reduceEq, Int.reduceLT, Int.reduceLE, Int.reduceNeg, Int.reduceToNat, h0, hcz1, hnb, loads_eq]
    refine RRunPost.bad hasked h0 (ext_kep ?_ hw)
    first | exact hE0.trans hE1 | exact (hE0.trans hE1).set (Nat.le_refl _) hzl _
  rw [if_neg (by simpa using h0)] at hasked
  by_cases m1 : most < 0
  · rw [if_pos (.inl m1)] at hasked
    simp -implicitDefEqProofs (maxDischargeDepth := 6) (maxSteps := 1000000) only [go_sem, ↓reduceIte, Nat.reduceLT, Nat.reduceLeDiff, Nat.reduceEqDiff, Nat.reduceAdd, Nat.reduceMul, Nat.reduceSub, Nat.reduceBEq, reduceCtorEq, Int.reduceEq, Int.reduceLT, Int.reduceLE, Int.reduceNeg, Int.reduceToNat, h0, m1, hcz1, hnb, loads_eq]
    refine RRunPost.bad hasked (by decide) (ext_kep ?_ hw)
    first | exact hE0.trans hE1 | exact (hE0.trans hE1).set (Nat.le_refl _) hzl _
  by_cases m2 : 65536 < most
  · rw [if_pos (.inr m2)] at hasked
    simp -implicitDefEqProofs (maxDischargeDepth := 6) (maxSteps := 1000000) only [go_sem, ↓reduceIte, Nat.reduceLT, Nat.reduceLeDiff, Nat.reduceEqDiff, Nat.reduceAdd, Nat.reduceMul, Nat.reduceSub, Nat.reduceBEq, reduceCtorEq, Int.reduceEq, Int.reduceLT, Int.reduceLE, Int.reduceNeg, Int.reduceToNat, h0, m1, m2, hcz1, hnb, loads_eq]
    refine RRunPost.bad hasked (by decide) (ext_kep ?_ hw)
    first | exact hE0.trans hE1 | exact (hE0.trans hE1).set (Nat.le_refl _) hzl _
  rw [if_neg (by omega)] at hasked
  have hf := asked_ok hasked
  have hpo := hf.pos
  obtain ⟨mo, rfl⟩ : ∃ mo : Nat, most = (mo : Int) := ⟨most.toNat, by omega⟩
  simp -implicitDefEqProofs (maxDischargeDepth := 6) (maxSteps := 1000000) only [go_sem, ↓reduceIte, Nat.reduceLT, Nat.reduceLeDiff, Nat.reduceEqDiff, Nat.reduceAdd, Nat.reduceMul, Nat.reduceSub, Nat.reduceBEq, reduceCtorEq, Int.reduceEq, Int.reduceLT, Int.reduceLE, Int.reduceNeg, Int.reduceToNat, h0, m1, m2]
  refine CW_mono _ (begin_W hE1.wf (htz.of hE0.wf hE1) (room := room) (by have := hf.n; omega)) ?_
  rintro _ H2 ⟨r, tv', rfl, hr, hE2, hst, hO⟩
  obtain ⟨M, hR⟩ := rr_begin hE0.wf hE1 (htz.of hE0.wf hE1) hf hr hE2 hst hO
  have hnb2 := hE2.wf.1
  simp -implicitDefEqProofs (maxDischargeDepth := 6) (maxSteps := 1000000) only [go_sem, ↓reduceIte, Nat.reduceLT, Nat.reduceLeDiff, Nat.reduceEqDiff, Nat.reduceAdd, Nat.reduceMul, Nat.reduceSub, Nat.reduceBEq, reduceCtorEq, Int.reduceEq, Int.reduceLT, Int.reduceLE, Int.reduceNeg, Int.reduceToNat, hnb2]
  have hE3 := (Ext.refl hE2.wf).alloc (⟨33, 0, false, [.int .i64 0, .slice none 0 0, .slice none 0 0, .slice none 0 0, .slice none 0 0]⟩ : Blk)
  have hR3 := hR.ext hE3
  have hB3 := bk_new hR hE3.wf (Nat.le_refl _) (get_alloc_eq (x := (⟨33, 0, false, [.int .i64 0, .slice none 0 0, .slice none 0 0, .slice none 0 0, .slice none 0 0]⟩ : Blk)) hnb2)
  generalize RM.mk' M H2 _ = M3 at hR3 hB3
  refine CW_mono _ (rready_W hR3.rf) ?_
  rintro _ H4 ⟨v, rfl, hE4, hO4⟩
  have hR4 := hR3.ext hE4
  have hB4 := bk_ext hR3 hB3 hE4
  have hO4 := own_new hR3 hE4.wf hO4
  generalize RM.mk' M3 _ H4 = M4 at hR4 hB4 hO4
  generalize hbo : H2.next = bo at *
  simp -implicitDefEqProofs (maxDischargeDepth := 6) (maxSteps := 1000000) only [go_sem, ↓reduceIte, Nat.reduceLT, Nat.reduceLeDiff, Nat.reduceEqDiff, Nat.reduceAdd, Nat.reduceMul, Nat.reduceSub, Nat.reduceBEq, reduceCtorEq, Int.reduceEq, Int.reduceLT, Int.reduceLE, Int.reduceNeg, Int.reduceToNat, ]
  rw [← Wk_block]
  have hzb : H.next < bo := by
    have := hE1.le
    have := hE2.le
    omega
  refine Wk_cut (JA Hz r bo H.next (runM (mo - (S0 ts room).trace.length) (S0 ts room) picks)) (run1 hnb2 hpz hpo hf.p (by omega) ?_ ?_ ?_ ?_ ?_ ?_ hR4 hO4 (.inl ⟨rfl, rfl, rfl⟩) hB4 (by simp [S0])) ?_
  any_goals simp -implicitDefEqProofs (maxDischargeDepth := 6) (maxSteps := 1000000) only [go_sem, ↓reduceIte, Nat.reduceLT, Nat.reduceLeDiff, Nat.reduceEqDiff, Nat.reduceAdd, Nat.reduceMul, Nat.reduceSub, Nat.reduceBEq, reduceCtorEq, Int.reduceEq, Int.reduceLT, Int.reduceLE, Int.reduceNeg, Int.reduceToNat, nv]
  rintro ⟨n, f, dd, G⟩ ⟨e1, e2, f8, f11, f12, M5, trv, hR5, hB5, hT5⟩
  dsimp only at e1 e2 f8 f11 f12 hR5 hB5 hT5
  subst e1 e2
  have e : mo - (S0 ts room).trace.length = mo := by simp [S0]
  rw [e] at hR5 hB5 hT5
  have ok5 := okR_run mo picks hf.okR
  have hl5 := runM_len mo (S := S0 ts room) picks
  have hl0 : (S0 ts room).trace.length = 0 := rfl
  have hS : runM mo (S0 ts room) picks = runM (mo : Int).toNat (S0 ts room) picks := by rw [Int.toNat_natCast]
  generalize hSf : runM mo (S0 ts room) picks = S at *
  have hstr := hR5.rf.x.st
  have hcell := hB5.2.2
  have hnb5 := hR5.rf.x.wf.1
  obtain ⟨ta, tc, rfl⟩ := hT5.sl
  simp only [outB] at hcell
  simp -implicitDefEqProofs (maxDischargeDepth := 6) (maxSteps := 1000000) only [go_sem, ↓reduceIte, Nat.reduceLT, Nat.reduceLeDiff, Nat.reduceEqDiff, Nat.reduceAdd, Nat.reduceMul, Nat.reduceSub, Nat.reduceBEq, reduceCtorEq, Int.reduceEq, Int.reduceLT, Int.reduceLE, Int.reduceNeg, Int.reduceToNat, f8, f11, f12, hstr, hcell]
  have hEb := Ext.bump (Ext.refl hR5.rf.x.wf) 10
  have hfr : firstA (bump G 10) 1 8 (.slice (some ⟨r, 13, none⟩) 8 8) = some (regL S) := by
    rw [firstA_regsR (H := bump G 10) hstr, show M5.V.regs = S.regs from hR5.rf.rel.regs]
    rfl
  refine Wk_vh (appS_nil (n := 8) rfl hfr (by omega) (by omega) (by omega)) ?_
  have hbl := hR5.rf.x.wf.lt hB5.2.2
  simp -implicitDefEqProofs (maxDischargeDepth := 6) (maxSteps := 1000000) only [go_sem, ↓reduceIte, Nat.reduceLT, Nat.reduceLeDiff, Nat.reduceEqDiff, Nat.reduceAdd, Nat.reduceMul, Nat.reduceSub, Nat.reduceBEq, reduceCtorEq, Int.reduceEq, Int.reduceLT, Int.reduceLE, Int.reduceNeg, Int.reduceToNat, f8, f11, f12, hcell, hnb5, hnb2, hbl]
  rw [← Wk_block]
  have hEa := hEb.alloc (⟨2, 1, true, regL S⟩ : Blk)
  have hRa := hR5.ext hEa
  have hTa := own_ext hR5 hT5 hEa
  have hBa := bk_ext hR5 hB5 hEa
  have hGa := own_new (es := 1) (ty := 2) (n := 8) (v := .slice (some ⟨G.next + 10, 0, none⟩) 8 openCap) (cs := regL S) hR5 hEa.wf (.inr ⟨G.next + 10, 0, [], rfl, by omega, by show G.next ≤ _; omega, by rw [get_alloc_at (by simp only [next_bump]; omega) (by simp only [next_bump])]; rfl, rfl, by simp [regL]⟩)
  generalize hMa : RM.mk' M5 G _ = Ma at hRa hTa hBa hGa
  have hla : bo < G.next + 10 + 1 := by omega
  have hw6 : WF (((bump G 10).alloc (⟨2, 1, true, regL S⟩ : Blk)).set bo (outB S.trace.length (.slice ta S.trace.length tc) (.slice (some ⟨G.next + 10, 0, none⟩) 8 openCap) (.slice none 0 0) (.slice none 0 0))) := hEa.wf.set (by simp only [next_alloc, next_bump]; omega) _
  have kp : ∀ {es ty n : Nat} {v : Value} {cs : List Value}, OwnL (tb Hz Ma) ((bump G 10).alloc (⟨2, 1, true, regL S⟩ : Blk)) es ty v n cs → OwnL (tb Hz (Ma.mk' ((bump G 10).alloc (⟨2, 1, true, regL S⟩ : Blk)) (((bump G 10).alloc (⟨2, 1, true, regL S⟩ : Blk)).set bo (outB S.trace.length (.slice ta S.trace.length tc) (.slice (some ⟨G.next + 10, 0, none⟩) 8 openCap) (.slice none 0 0) (.slice none 0 0)))))
      (((bump G 10).alloc (⟨2, 1, true, regL S⟩ : Blk)).set bo (outB S.trace.length (.slice ta S.trace.length tc) (.slice (some ⟨G.next + 10, 0, none⟩) 8 openCap) (.slice none 0 0) (.slice none 0 0))) es ty v n cs := by
    intro es ty n v cs ho
    refine own_tr hRa ho fun b x hb hx => ?_
    rw [get_set_ne]
    · exact hb
    · rintro rfl
      rw [hBa.2.2] at hb; cases hb; cases hx.1
  have hO6 : OutR Hz r bo S (.slice ta S.trace.length tc) (.slice (some ⟨G.next + 10, 0, none⟩) 8 openCap) (.slice none 0 0) (.slice none 0 0) 0 (fun _ => .slice none 0 0) 0 _ _ :=
    ⟨hRa.tr hw6 (by rw [next_set]; exact Nat.le_refl _) (fun b x hb ho => by
      rw [get_set_ne (by rintro rfl; exact ho hBa.2.1)]
      exact hb), bk_tr hRa hBa (get_set_eq hnb2), kp hTa, kp hGa, .inl ⟨rfl, rfl, rfl⟩, fun j hj => absurd hj (by omega), .inl ⟨rfl, rfl, rfl⟩⟩
  have hm2 := hf.m2
  refine Wk_cut _ (run2 (o := H.next) hnb2 (fun j => by have := ok5.qb j; omega) ?_ ?_ ?_ ?_ hO6 ⟨_, _, rfl⟩ ⟨_, _, rfl⟩) ?_
  · simp only [Tr.get_put, Nat.reduceEqDiff, ↓reduceIte, f8]
  · simp only [Tr.get_put, Nat.reduceEqDiff, ↓reduceIte, f11]
  · simp only [Tr.get_put, Nat.reduceEqDiff, ↓reduceIte, f12]
  · simp only [Tr.get_put, Nat.reduceEqDiff, ↓reduceIte, nv]
    rfl
  clear f8 f11 f12
  rintro ⟨n, f, dd, G7⟩ ⟨e1, e2, f8, f11, f12, M7, qs, qv, hO7⟩
  dsimp only at e1 e2 f8 f11 f12 hO7
  subst e1 e2
  simp -implicitDefEqProofs (maxDischargeDepth := 6) (maxSteps := 1000000) only [go_sem, ↓reduceIte, Nat.reduceLT, Nat.reduceLeDiff, Nat.reduceEqDiff, Nat.reduceAdd, Nat.reduceMul, Nat.reduceSub, Nat.reduceBEq, reduceCtorEq, Int.reduceEq, Int.reduceLT, Int.reduceLE, Int.reduceNeg, Int.reduceToNat, ]
  rw [← Wk_block]
  refine Wk_cut _ (run3 (o := H.next) hnb2 ?_ ?_ ?_ ?_ hO7 ⟨_, _, rfl⟩) ?_
  · simp only [Tr.get_put, Nat.reduceEqDiff, ↓reduceIte, f8]
  · simp only [Tr.get_put, Nat.reduceEqDiff, ↓reduceIte, f11]
  · simp only [Tr.get_put, Nat.reduceEqDiff, ↓reduceIte, f12]
  · simp only [Tr.get_put, Nat.reduceEqDiff, ↓reduceIte, nv]
    rfl
  clear f8 f11 f12
  rintro ⟨n, f, dd, G8⟩ ⟨e1, e2, f8, f11, f12, M8, ev, hO8⟩
  dsimp only at e1 e2 f8 f11 f12 hO8
  subst e1 e2
  have hcell8 := hO8.bk.2.2
  obtain ⟨ea, ec, rfl⟩ := hO8.ends.sl
  obtain ⟨sa, sc, rfl⟩ := hO8.qs.sl
  have hz8 := (hO8.rr.keep _ _ hzc).1
  have hnb8 := hO8.rr.rf.x.wf.1
  simp only [outB] at hcell8
  simp -implicitDefEqProofs (maxDischargeDepth := 6) (maxSteps := 1000000) only [go_sem, ↓reduceIte, Nat.reduceLT, Nat.reduceLeDiff, Nat.reduceEqDiff, Nat.reduceAdd, Nat.reduceMul, Nat.reduceSub, Nat.reduceBEq, reduceCtorEq, Int.reduceEq, Int.reduceLT, Int.reduceLE, Int.reduceNeg, Int.reduceToNat, f8, f11, f12, nv, hcell8, loads_eq, hz8, hnb]
  have hzl8 := hO8.rr.rf.x.wf.lt hz8
  have fr : ∀ {es ty n : Nat} {v : Value} {cs : List Value}, OwnL (tb Hz M8) G8 es ty v n cs → OwnL (fun b => H.next ≤ b) (G8.set H.next (outB S.trace.length (.slice ta S.trace.length tc) (.slice (some ⟨G.next + 10, 0, none⟩) 8 openCap) (.slice ea S.N ec) (.slice sa 4 sc))) es ty v n cs := by
    intro es ty n v cs ho
    refine ho.frame fun b x hb hg => ?_
    have := hb.1
    refine ⟨by show H.next ≤ b; omega, ?_⟩
    rw [get_set_ne (by omega)]; exact hg
  refine ⟨⟨hO8.rr.rf.x.wf.set hzl8 _, ?_, fun b x hb => ?_⟩, fun h => absurd hasked h, fun _ => ?_⟩
  · rw [next_set]; have := hO8.rr.le; omega
  · have := hw.lt hb
    rw [get_set_ne (by omega)]
    exact (hO8.rr.keep _ _ (hE0.of hw hb)).1
  · rw [← hS]
    refine ⟨_, _, _, _, qv, rfl, fr hO8.tr, fr hO8.regs, fr hO8.ends, fr hO8.qs, fun j hj => fr (hO8.q j hj)⟩
end Go.Am.T
namespace Go.Am.T
open Go Go.Am Go.Proofs.Ythanhcpnhionaaa Go.Proofs
theorem ints_W {H : Heap} {v w : Value} {l : List Int} (hv : RdI H v (l.map iv)) (hw : RdI H w (l.map iv)) (hb : l.length ≤ 70368744177664) : CW Try.prog 32 #[v, w] H fun x H' => x = .ret (.bool true) ∧ H = H' := by
  refine CW_k (n := 26) if32 rfl ?_
  unfold C32
  obtain ⟨va, vc, hvv, _⟩ := id hv
  obtain ⟨wa, wc, hww, _⟩ := id hw
  simp only [List.length_map] at hvv hww
  subst hvv hww
  simp -implicitDefEqProofs (maxDischargeDepth := 6) (maxSteps := 1000000) only [go_sem, ↓reduceIte, Nat.reduceLT, Nat.reduceLeDiff, Nat.reduceEqDiff, Nat.reduceAdd, Nat.reduceMul, Nat.reduceSub, Nat.reduceBEq, reduceCtorEq, Int.reduceEq, Int.reduceLT, Int.reduceLE, Int.reduceNeg, Int.reduceToNat, goInt]
  refine Wk_loopF (fun m f G => ∃ k, m = l.length - k ∧ k ≤ l.length ∧ f.get 0 = some (.slice va l.length vc) ∧ f.get 1 = some (.slice wa l.length wc) ∧ f.get 5 = some (nv k) ∧ G = H) l.length ?_ ?_
  · refine ⟨0, by omega, by omega, ?_, ?_, ?_, rfl⟩
    all_goals simp -implicitDefEqProofs (maxDischargeDepth := 6) (maxSteps := 1000000) only [go_sem, ↓reduceIte, Nat.reduceLT, Nat.reduceLeDiff, Nat.reduceEqDiff, Nat.reduceAdd, Nat.reduceMul, Nat.reduceSub, Nat.reduceBEq, reduceCtorEq, Int.reduceEq, Int.reduceLT, Int.reduceLE, Int.reduceNeg, Int.reduceToNat, nv]
    rfl
  rintro m f G ⟨k, rfl, hk, f0, f1, f5, hG⟩
  subst G
  unfold L32_1
  by_cases hlt : k < l.length
  · have hltZ : (k : Int) < (l.length : Int) := by omega
    have hk0 : (0 : Int) ≤ (k : Int) := by omega
    have hw1 : IntKind.i64.wrap ((k : Int) + 1) = ((k + 1 : Nat) : Int) := IntWalk.i64_in _ (by omega)
    obtain ⟨b, o, c, x, e, hc, hx, hxk⟩ := hv.at_ (i := k) (by simpa using hlt)
    simp only [Value.slice.injEq, List.length_map, true_and] at e
    obtain ⟨rfl, rfl⟩ := e
    obtain ⟨b', o', c', x', e, hc', hx', hxk'⟩ := hw.at_ (i := k) (by simpa using hlt)
    simp only [Value.slice.injEq, List.length_map, true_and] at e
    obtain ⟨rfl, rfl⟩ := e
    simp only [List.getElem_map, iv] at hxk hxk'
    simp -implicitDefEqProofs (maxDischargeDepth := 6) (maxSteps := 1000000) only [go_sem, ↓reduceIte, Nat.reduceLT, Nat.reduceLeDiff, Nat.reduceEqDiff, Nat.reduceAdd, Nat.reduceMul, Nat.reduceSub, Nat.reduceBEq, reduceCtorEq, Int.reduceEq, Int.reduceLT, Int.reduceLE, Int.reduceNeg, Int.reduceToNat, f0, f1, f5, nv, hltZ, hk0, hc, hx, hxk, hc', hx', hxk', hw1, goInt]
    refine ⟨l.length - (k + 1), by omega, k + 1, rfl, by omega, ?_, ?_, ?_, rfl⟩
    · simp only [Tr.get_put, Nat.reduceEqDiff, ↓reduceIte, f0]
    · simp only [Tr.get_put, Nat.reduceEqDiff, ↓reduceIte, f1]
    · simp only [Tr.get_put, Nat.reduceEqDiff, ↓reduceIte, nv]
  · have hltZ : ¬ (k : Int) < (l.length : Int) := by omega
    simp -implicitDefEqProofs (maxDischargeDepth := 6) (maxSteps := 1000000) only [go_sem, ↓reduceIte, Nat.reduceLT, Nat.reduceLeDiff, Nat.reduceEqDiff, Nat.reduceAdd, Nat.reduceMul, Nat.reduceSub, Nat.reduceBEq, reduceCtorEq, Int.reduceEq, Int.reduceLT, Int.reduceLE, Int.reduceNeg, Int.reduceToNat, f0, f1, f5, nv, hltZ, goInt]
def PrAt (H : Heap) (v : Value) (l : List (Int × Int)) : Prop := ∃ a c, v = .slice a l.length c ∧ (l ≠ [] → c ≠ 0 ∧ ∃ b o x, a = some ⟨b, o, none⟩ ∧ H.get b = some x ∧ ∀ i (h : i < l.length), o + i * 2 + 2 ≤ x.cells.length ∧ (x.cells.drop (o + i * 2)).take 2 = [iv (l[i]).1, iv (l[i]).2])
theorem PrAt.at_ {H : Heap} {v : Value} {l : List (Int × Int)} (h : PrAt H v l) {i : Nat} (hi : i < l.length) : ∃ b o c x, v = .slice (some ⟨b, o, none⟩) l.length c ∧ c ≠ 0 ∧ H.get b = some x ∧ o + i * 2 + 2 ≤ x.cells.length ∧ (x.cells.drop (o + i * 2)).take 2 = [iv (l[i]).1, iv (l[i]).2] ∧ x.cells[o + i * 2]? = some (iv (l[i]).1) := by
  obtain ⟨a, c, e, k⟩ := h
  obtain ⟨hc, b, o, x, rfl, hx, k⟩ := k (by intro e; subst e; cases hi)
  obtain ⟨k1, k2⟩ := k i hi
  refine ⟨b, o, c, x, e, hc, hx, k1, k2, ?_⟩
  have := congrArg (fun l => l[0]?) k2
  simpa [List.getElem?_take, List.getElem?_drop] using this
theorem PrAt.of {H H' : Heap} {v : Value} {l : List (Int × Int)} (h : PrAt H v l) (k : ∀ b x, H.get b = some x → H'.get b = some x) : PrAt H' v l := by
  obtain ⟨a, c, e, q⟩ := h
  refine ⟨a, c, e, fun hl => ?_⟩
  obtain ⟨hc, b, o, x, ha, hx, q⟩ := q hl
  exact ⟨hc, b, o, x, ha, k b x hx, q⟩
def prC : List (Int × Int) → List Value
  | [] => []
  | p :: l => iv p.1 :: iv p.2 :: prC l
theorem prC_len (l : List (Int × Int)) : (prC l).length = l.length * 2 := by
  induction l with
  | nil => rfl
  | cons p l ih => simp [prC, ih]; omega
theorem prC_at : ∀ (l : List (Int × Int)) (i : Nat) (h : i < l.length), ((prC l).drop (i * 2)).take 2 = [iv (l[i]).1, iv (l[i]).2]
  | [], _, h => by cases h
  | p :: l, 0, _ => rfl
  | p :: l, i + 1, h => by
    have := prC_at l i (by simpa using h)
    rw [show (i + 1) * 2 = i * 2 + 2 by omega]
    simpa [prC] using this
theorem OwnL.pr {p : Nat → Prop} {H : Heap} {ty : Nat} {v : Value} {N : Nat} {cs : List Value} {l : List (Int × Int)} (h : OwnL p H 2 ty v N cs) (hc : cs = prC l) : PrAt H v l := by
  subst hc
  have hn : N = l.length := by have := h.len; rw [prC_len] at this; omega
  subst hn
  rcases h with ⟨rfl, h2, _⟩ | ⟨b, o, pre, rfl, _, _, h4, h5, _⟩
  · exact ⟨none, 0, by rw [h2], fun hl => absurd (List.eq_nil_of_length_eq_zero h2) hl⟩
  · refine ⟨some ⟨b, o, none⟩, openCap, rfl, fun _ => ⟨by unfold openCap; omega, b, o, _, rfl, h4, fun i hi => ?_⟩⟩
    subst h5
    refine ⟨by simp only [List.length_append, prC_len]; omega, ?_⟩
    rw [List.drop_length_add_append]
    exact prC_at l i hi
theorem trC_prC (l : List (Nat × Nat)) : trC l = prC (l.map fun p => ((p.1 : Int), (p.2 : Int))) := by
  induction l with
  | nil => rfl
  | cons p l ih => simp [trC, prC, ih, nv, iv]
theorem flat_prC {α : Type} (l : List α) (f g : α → Int) : (l.flatMap fun i => [iv (f i), iv (g i)]) = prC (l.map fun i => (f i, g i)) := by
  induction l with
  | nil => rfl
  | cons p l ih => simp [prC, ih]
structure RanV (H : Heap) (trv rgv ev qsv : Value) (tr : List (Int × Int)) (rg : List Int) (en : List (Int × Int)) (qs : List (List Int)) : Prop where
  tr_ : PrAt H trv tr
  rg_ : RdI H rgv (rg.map iv)
  en_ : PrAt H ev en
  qs_ : ∃ qv : Nat → Value, RdI H qsv ((List.range qs.length).map qv) ∧ ∀ j (h : j < qs.length), RdI H (qv j) ((qs[j]).map iv)
theorem RanV.of {H H' : Heap} {trv rgv ev qsv : Value} {tr : List (Int × Int)} {rg : List Int} {en : List (Int × Int)} {qs : List (List Int)} (h : RanV H trv rgv ev qsv tr rg en qs) (k : ∀ b x, H.get b = some x → H'.get b = some x) : RanV H' trv rgv ev qsv tr rg en qs := by
  obtain ⟨h1, h2, h3, qv, h4, h5⟩ := h
  exact ⟨h1.of k, h2.of k, h3.of k, qv, h4.of k, fun j hj => (h5 j hj).of k⟩
def trI (S : Sx) : List (Int × Int) := S.trace.map fun p => ((p.1 : Int), (p.2 : Int))
def rgI (S : Sx) : List Int := (List.range 8).map S.regs
def enI (S : Sx) : List (Int × Int) := (List.range S.N).map fun i => (howS S i, (S.tk i).n)
def qsI (S : Sx) : List (List Int) := (List.range 4).map S.queues
theorem Eq_W {H : Heap} (hw : WF H) {st : Int} {ta ra ea qa tb rb eb qb : Value} {tr : List (Int × Int)} {rg : List Int} {en : List (Int × Int)} {qs : List (List Int)} (ha : RanV H ta ra ea qa tr rg en qs) (hb : RanV H tb rb eb qb tr rg en qs)
    (l1 : tr.length ≤ 70368744177664) (l2 : rg.length ≤ 70368744177664) (l3 : en.length ≤ 70368744177664) (l4 : qs.length ≤ 70368744177664) (l5 : ∀ q ∈ qs, q.length ≤ 70368744177664) :
    CW Try.prog 16 #[.agg #[.int .i64 st, ta, ra, ea, qa], .agg #[.int .i64 st, tb, rb, eb, qb]] H fun x H' => x = .ret (.bool true) ∧ Ext H H' := by
  refine CW_k (n := 103) if16 rfl ?_
  unfold C16
  obtain ⟨a1, a2, rfl, _⟩ := id ha.tr_
  obtain ⟨a3, a4, rfl, _⟩ := id ha.rg_
  obtain ⟨a5, a6, rfl, _⟩ := id ha.en_
  obtain ⟨qv, hq, hqj⟩ := ha.qs_
  obtain ⟨a7, a8, hqa, _⟩ := id hq
  obtain ⟨b1, b2, rfl, _⟩ := id hb.tr_
  obtain ⟨b3, b4, rfl, _⟩ := id hb.rg_
  obtain ⟨b5, b6, rfl, _⟩ := id hb.en_
  obtain ⟨qw, hp, hpj⟩ := hb.qs_
  obtain ⟨b7, b8, hqb, _⟩ := id hp
  simp only [List.length_map, List.length_range] at hqa hqb
  subst hqa hqb
  have hnb := hw.1
  have hE := ((Ext.refl hw).alloc (⟨33, 0, false, [.int .i64 st, .slice a1 tr.length a2, .slice a3 (rg.map iv).length a4, .slice a5 en.length a6, .slice a7 qs.length a8]⟩ : Blk)).alloc (⟨33, 0, false, [.int .i64 st, .slice b1 tr.length b2, .slice b3 (rg.map iv).length b4, .slice b5 en.length b6, .slice b7 qs.length b8]⟩ : Blk)
  simp -implicitDefEqProofs (maxDischargeDepth := 6) (maxSteps := 1000000) only [go_sem, ↓reduceIte, Nat.reduceLT, Nat.reduceLeDiff, Nat.reduceEqDiff, Nat.reduceAdd, Nat.reduceMul, Nat.reduceSub, Nat.reduceBEq, reduceCtorEq, Int.reduceEq, Int.reduceLT, Int.reduceLE, Int.reduceNeg, Int.reduceToNat, hnb, loads_eq, goInt]
  generalize hF : Heap.alloc (Heap.alloc H _) _ = F at *
  have ca : F.get H.next = some ⟨33, 0, false, [.int .i64 st, .slice a1 tr.length a2, .slice a3 (rg.map iv).length a4, .slice a5 en.length a6, .slice a7 qs.length a8]⟩ := by rw [← hF]; simp -implicitDefEqProofs (maxDischargeDepth := 6) (maxSteps := 1000000) only [go_sem, ↓reduceIte, Nat.reduceLT, Nat.reduceLeDiff, Nat.reduceEqDiff, Nat.reduceAdd, Nat.reduceMul, Nat.reduceSub, Nat.reduceBEq, reduceCtorEq, Int.reduceEq, Int.reduceLT, Int.reduceLE, Int.reduceNeg, Int.reduceToNat, hnb]
  have cb : F.get (H.next + 1) = some ⟨33, 0, false, [.int .i64 st, .slice b1 tr.length b2, .slice b3 (rg.map iv).length b4, .slice b5 en.length b6, .slice b7 qs.length b8]⟩ := by rw [← hF]; simp -implicitDefEqProofs (maxDischargeDepth := 6) (maxSteps := 1000000) only [go_sem, ↓reduceIte, Nat.reduceLT, Nat.reduceLeDiff, Nat.reduceEqDiff, Nat.reduceAdd, Nat.reduceMul, Nat.reduceSub, Nat.reduceBEq, reduceCtorEq, Int.reduceEq, Int.reduceLT, Int.reduceLE, Int.reduceNeg, Int.reduceToNat, hnb]
  have hFw := hE.wf
  have haF : ∀ b x, H.get b = some x → F.get b = some x := fun b x hb => hE.of hw hb
  refine CW_mono _ (ints_W (ha.rg_.of haF) (hb.rg_.of haF) l2) ?_
  rintro _ _ ⟨rfl, rfl⟩
  simp -implicitDefEqProofs (maxDischargeDepth := 6) (maxSteps := 1000000) only [go_sem, ↓reduceIte, Nat.reduceLT, Nat.reduceLeDiff, Nat.reduceEqDiff, Nat.reduceAdd, Nat.reduceMul, Nat.reduceSub, Nat.reduceBEq, reduceCtorEq, Int.reduceEq, Int.reduceLT, Int.reduceLE, Int.reduceNeg, Int.reduceToNat, ]
  refine Wk_loopF (fun m f G => ∃ k, m = tr.length - k ∧ k ≤ tr.length ∧ f.get 2 = some (.pointer (some ⟨H.next, 0, none⟩)) ∧ f.get 3 = some (.pointer (some ⟨H.next + 1, 0, none⟩)) ∧ f.get 5 = some (nv k) ∧ G = F) tr.length ?_ ?_
  · refine ⟨0, by omega, by omega, ?_, ?_, ?_, rfl⟩
    all_goals simp -implicitDefEqProofs (maxDischargeDepth := 6) (maxSteps := 1000000) only [go_sem, ↓reduceIte, Nat.reduceLT, Nat.reduceLeDiff, Nat.reduceEqDiff, Nat.reduceAdd, Nat.reduceMul, Nat.reduceSub, Nat.reduceBEq, reduceCtorEq, Int.reduceEq, Int.reduceLT, Int.reduceLE, Int.reduceNeg, Int.reduceToNat, nv]
    rfl
  rintro m f G ⟨k, rfl, hk, f2, f3, f5, hG⟩
  subst G
  unfold L16_1
  by_cases hlt : k < tr.length
  · have hltZ : (k : Int) < (tr.length : Int) := by omega
    have hk0 : (0 : Int) ≤ (k : Int) := by omega
    have hw1 : IntKind.i64.wrap ((k : Int) + 1) = ((k + 1 : Nat) : Int) := IntWalk.i64_in _ (by omega)
    obtain ⟨b, o, c, x, e, hc, hx, hle, hxk, _⟩ := (ha.tr_.of haF).at_ hlt
    simp only [Value.slice.injEq, true_and] at e
    obtain ⟨rfl, rfl⟩ := e
    obtain ⟨b', o', c', x', e, hc', hx', hle', hxk', _⟩ := (hb.tr_.of haF).at_ hlt
    simp only [Value.slice.injEq, true_and] at e
    obtain ⟨rfl, rfl⟩ := e
    simp only [iv] at hxk hxk'
    simp -implicitDefEqProofs (maxDischargeDepth := 6) (maxSteps := 1000000) only [go_sem, ↓reduceIte, Nat.reduceLT, Nat.reduceLeDiff, Nat.reduceEqDiff, Nat.reduceAdd, Nat.reduceMul, Nat.reduceSub, Nat.reduceBEq, reduceCtorEq, Int.reduceEq, Int.reduceLT, Int.reduceLE, Int.reduceNeg, Int.reduceToNat, f2, f3, f5, nv, ca, cb, loads_eq, hltZ, hk0, hc, hx, hle, hxk, hc', hx', hle', hxk', hw1, goInt]
    refine ⟨tr.length - (k + 1), by omega, k + 1, rfl, by omega, ?_, ?_, ?_, rfl⟩
    · simp only [Tr.get_put, Nat.reduceEqDiff, ↓reduceIte, f2]
    · simp only [Tr.get_put, Nat.reduceEqDiff, ↓reduceIte, f3]
    · simp only [Tr.get_put, Nat.reduceEqDiff, ↓reduceIte, nv]
  have hltZ : ¬ (k : Int) < (tr.length : Int) := by omega
  simp -implicitDefEqProofs (maxDischargeDepth := 6) (maxSteps := 1000000) only [go_sem, ↓reduceIte, Nat.reduceLT, Nat.reduceLeDiff, Nat.reduceEqDiff, Nat.reduceAdd, Nat.reduceMul, Nat.reduceSub, Nat.reduceBEq, reduceCtorEq, Int.reduceEq, Int.reduceLT, Int.reduceLE, Int.reduceNeg, Int.reduceToNat, f2, f3, f5, nv, ca, cb, hltZ, goInt]
  refine Wk_loopF (fun m f G => ∃ k, m = en.length - k ∧ k ≤ en.length ∧ f.get 2 = some (.pointer (some ⟨H.next, 0, none⟩)) ∧ f.get 3 = some (.pointer (some ⟨H.next + 1, 0, none⟩)) ∧ f.get 6 = some (nv k) ∧ G = F) en.length ?_ ?_
  · refine ⟨0, by omega, by omega, ?_, ?_, ?_, rfl⟩
    all_goals simp -implicitDefEqProofs (maxDischargeDepth := 6) (maxSteps := 1000000) only [go_sem, ↓reduceIte, Nat.reduceLT, Nat.reduceLeDiff, Nat.reduceEqDiff, Nat.reduceAdd, Nat.reduceMul, Nat.reduceSub, Nat.reduceBEq, reduceCtorEq, Int.reduceEq, Int.reduceLT, Int.reduceLE, Int.reduceNeg, Int.reduceToNat, f2, f3, nv]
    rfl
  clear f2 f3 f5
  rintro m f G ⟨k, rfl, hk, f2, f3, f6, hG⟩
  subst G
  unfold L16_2
  by_cases hlt : k < en.length
  · have hltZ : (k : Int) < (en.length : Int) := by omega
    have hk0 : (0 : Int) ≤ (k : Int) := by omega
    have hw1 : IntKind.i64.wrap ((k : Int) + 1) = ((k + 1 : Nat) : Int) := IntWalk.i64_in _ (by omega)
    obtain ⟨b, o, c, x, e, hc, hx, hle, hxk, _⟩ := (ha.en_.of haF).at_ hlt
    simp only [Value.slice.injEq, true_and] at e
    obtain ⟨rfl, rfl⟩ := e
    obtain ⟨b', o', c', x', e, hc', hx', hle', hxk', _⟩ := (hb.en_.of haF).at_ hlt
    simp only [Value.slice.injEq, true_and] at e
    obtain ⟨rfl, rfl⟩ := e
    simp only [iv] at hxk hxk'
    simp -implicitDefEqProofs (maxDischargeDepth := 6) (maxSteps := 1000000) only [go_sem, ↓reduceIte, Nat.reduceLT, Nat.reduceLeDiff, Nat.reduceEqDiff, Nat.reduceAdd, Nat.reduceMul, Nat.reduceSub, Nat.reduceBEq, reduceCtorEq, Int.reduceEq, Int.reduceLT, Int.reduceLE, Int.reduceNeg, Int.reduceToNat, f2, f3, f6, nv, ca, cb, loads_eq, hltZ, hk0, hc, hx, hle, hxk, hc', hx', hle', hxk', hw1, goInt]
    refine ⟨en.length - (k + 1), by omega, k + 1, rfl, by omega, ?_, ?_, ?_, rfl⟩
    · simp only [Tr.get_put, Nat.reduceEqDiff, ↓reduceIte, f2]
    · simp only [Tr.get_put, Nat.reduceEqDiff, ↓reduceIte, f3]
    · simp only [Tr.get_put, Nat.reduceEqDiff, ↓reduceIte, nv]
  have hltZ : ¬ (k : Int) < (en.length : Int) := by omega
  simp -implicitDefEqProofs (maxDischargeDepth := 6) (maxSteps := 1000000) only [go_sem, ↓reduceIte, Nat.reduceLT, Nat.reduceLeDiff, Nat.reduceEqDiff, Nat.reduceAdd, Nat.reduceMul, Nat.reduceSub, Nat.reduceBEq, reduceCtorEq, Int.reduceEq, Int.reduceLT, Int.reduceLE, Int.reduceNeg, Int.reduceToNat, f2, f3, f6, nv, ca, cb, hltZ, goInt]
  refine Wk_loopF (fun m f G => ∃ k, m = qs.length - k ∧ k ≤ qs.length ∧ f.get 2 = some (.pointer (some ⟨H.next, 0, none⟩)) ∧ f.get 3 = some (.pointer (some ⟨H.next + 1, 0, none⟩)) ∧ f.get 7 = some (nv k) ∧ Ext H G ∧ G.get H.next = F.get H.next ∧ G.get (H.next + 1) = F.get (H.next + 1)) qs.length ?_ ?_
  · refine ⟨0, by omega, by omega, ?_, ?_, ?_, hE, rfl, rfl⟩
    all_goals simp -implicitDefEqProofs (maxDischargeDepth := 6) (maxSteps := 1000000) only [go_sem, ↓reduceIte, Nat.reduceLT, Nat.reduceLeDiff, Nat.reduceEqDiff, Nat.reduceAdd, Nat.reduceMul, Nat.reduceSub, Nat.reduceBEq, reduceCtorEq, Int.reduceEq, Int.reduceLT, Int.reduceLE, Int.reduceNeg, Int.reduceToNat, f2, f3, nv]
    rfl
  clear f2 f3 f6
  rintro m f G ⟨k, rfl, hk, f2, f3, f7, hEG, hga, hgb⟩
  rw [ca] at hga
  rw [cb] at hgb
  have haG : ∀ b x, H.get b = some x → G.get b = some x := fun b x hb => hEG.of hw hb
  unfold L16_3
  by_cases hlt : k < qs.length
  · have hltZ : (k : Int) < (qs.length : Int) := by omega
    have hk0 : (0 : Int) ≤ (k : Int) := by omega
    have hw1 : IntKind.i64.wrap ((k : Int) + 1) = ((k + 1 : Nat) : Int) := IntWalk.i64_in _ (by omega)
    obtain ⟨b, o, c, x, e, hc, hx, hxk⟩ := (hq.of haG).at_ (i := k) (by simpa using hlt)
    simp only [Value.slice.injEq, List.length_map, List.length_range, true_and] at e
    obtain ⟨rfl, rfl⟩ := e
    obtain ⟨b', o', c', x', e, hc', hx', hxk'⟩ := (hp.of haG).at_ (i := k) (by simpa using hlt)
    simp only [Value.slice.injEq, List.length_map, List.length_range, true_and] at e
    obtain ⟨rfl, rfl⟩ := e
    simp only [List.getElem_map, List.getElem_range] at hxk hxk'
    simp -implicitDefEqProofs (maxDischargeDepth := 6) (maxSteps := 1000000) only [go_sem, ↓reduceIte, Nat.reduceLT, Nat.reduceLeDiff, Nat.reduceEqDiff, Nat.reduceAdd, Nat.reduceMul, Nat.reduceSub, Nat.reduceBEq, reduceCtorEq, Int.reduceEq, Int.reduceLT, Int.reduceLE, Int.reduceNeg, Int.reduceToNat, f2, f3, f7, nv, hga, hgb, hltZ, hk0, hc, hx, hxk, hc', hx', hxk', hw1, goInt]
    have hbm := Ext.bump (Ext.refl hEG.wf) 13
    have hbk : ∀ b x, G.get b = some x → (bump G 13).get b = some x := fun b x hb => hbm.of hEG.wf hb
    refine CW_mono _ (ints_W (((hqj k hlt).of haG).of hbk) (((hpj k hlt).of haG).of hbk) (l5 _ (List.getElem_mem hlt))) ?_
    rintro _ _ ⟨rfl, rfl⟩
    simp -implicitDefEqProofs (maxDischargeDepth := 6) (maxSteps := 1000000) only [go_sem, ↓reduceIte, Nat.reduceLT, Nat.reduceLeDiff, Nat.reduceEqDiff, Nat.reduceAdd, Nat.reduceMul, Nat.reduceSub, Nat.reduceBEq, reduceCtorEq, Int.reduceEq, Int.reduceLT, Int.reduceLE, Int.reduceNeg, Int.reduceToNat, f2, f3, f7, nv, hw1]
    refine ⟨qs.length - (k + 1), by omega, k + 1, rfl, by omega, ?_, ?_, ?_, hEG.trans hbm, ?_, ?_⟩
    · simp only [Tr.get_put, Nat.reduceEqDiff, ↓reduceIte, f2]
    · simp only [Tr.get_put, Nat.reduceEqDiff, ↓reduceIte, f3]
    · simp only [Tr.get_put, Nat.reduceEqDiff, ↓reduceIte, nv]
    · rw [ca]; exact hbk _ _ hga
    · rw [cb]; exact hbk _ _ hgb
  · have hltZ : ¬ (k : Int) < (qs.length : Int) := by omega
    simp -implicitDefEqProofs (maxDischargeDepth := 6) (maxSteps := 1000000) only [go_sem, ↓reduceIte, Nat.reduceLT, Nat.reduceLeDiff, Nat.reduceEqDiff, Nat.reduceAdd, Nat.reduceMul, Nat.reduceSub, Nat.reduceBEq, reduceCtorEq, Int.reduceEq, Int.reduceLT, Int.reduceLE, Int.reduceNeg, Int.reduceToNat, f2, f3, f7, nv, hga, hltZ, goInt]
    exact hEG
end Go.Am.T

namespace Go.Am.T
open Go Go.Am Go.Proofs.Ythanhcpnhionaaa Go.Proofs
theorem chunks : ∀ (l : List Act) (cs : List Value) (o : Nat), (∀ j (h : j < l.length), o + j * 4 + 4 ≤ cs.length ∧ (cs.drop (o + j * 4)).take 4 = (l[j]).cells) → (cs.drop o).take (l.length * 4) = actC l
  | [], cs, o, _ => by simp [actC]
  | a :: l, cs, o, h => by
    have h0 := (h 0 (by simp)).2
    simp only [Nat.zero_mul, Nat.add_zero, List.getElem_cons_zero] at h0
    have ih := chunks l cs (o + 4) fun j hj => by
      have := h (j + 1) (by simpa using hj)
      simp only [List.getElem_cons_succ] at this
      rw [show o + 4 + j * 4 = o + (j + 1) * 4 by omega]
      exact this
    rw [show (a :: l).length * 4 = 4 + l.length * 4 by simp only [List.length_cons]; omega, List.take_add, h0, List.drop_drop, ih]
    rfl
theorem acts_first {H : Heap} {a : Option Addr} {c : Nat} {l : List Act} (h : ActsAt H (.slice a l.length c) l) (h0 : l ≠ []) : firstA H 4 l.length (.slice a l.length c) = some (actC l) := by
  obtain ⟨a', c', e, k⟩ := h
  simp only [Value.slice.injEq, true_and] at e
  obtain ⟨rfl, rfl⟩ := e
  obtain ⟨hc, b, o, x, rfl, hx, q⟩ := k h0
  have hl : l.length ≠ 0 := fun e => h0 (List.eq_nil_of_length_eq_zero e)
  show (if l.length = 0 then some [] else if c = 0 then none else H.loads ⟨b, o, none⟩ (l.length * 4)) = _
  have hle : o + l.length * 4 ≤ x.cells.length := by
    have := (q (l.length - 1) (by omega)).1
    omega
  rw [if_neg hl, if_neg hc, loads_eq, hx, Option.bind_some, if_pos hle, chunks l x.cells o q]
theorem appNilA {H : Heap} (hw : WF H) {a : Option Addr} {c : Nat} {l : List Act} (h : ActsAt H (.slice a l.length c) l) (hb : l.length ≤ 1048576) :
    ∃ v' H', appS H 47 4 32 none 0 0 (.slice a l.length c) = some (v', H') ∧ Ext H H' ∧ OwnL (fun b => H.next ≤ b) H' 4 47 v' l.length (actC l) := by
  by_cases h0 : l = []
  · subst h0
    exact ⟨.slice none 0 0, H, appS_nil0, Ext.refl hw, .inl ⟨rfl, rfl, rfl⟩⟩
  · have hl : 0 < l.length := List.length_pos_iff.2 h0
    refine ⟨_, _, appS_nil rfl (acts_first h h0) hl (by omega) (by omega), (Ext.refl hw).alloc _, .inr ⟨H.next, 0, [], rfl, hw.1, Nat.le_refl _, get_alloc_eq hw.1, rfl, by rw [actC_len]⟩⟩
def spareA : Act := ⟨-3, 0, 0, 0⟩
def TwAt (H0 H : Heap) (v : Value) (l : List Act) : Prop := ∃ b, v = .slice (some ⟨b, 0, none⟩) l.length openCap ∧ base0 ≤ b ∧ H0.next ≤ b ∧ H.get b = some ⟨47, 4, true, actC (l ++ [spareA])⟩
theorem TwAt.of {H0 H H' : Heap} {v : Value} {l : List Act} (h : TwAt H0 H v l) (k : ∀ b x, H.get b = some x → x.opn = true → x.ty = 47 → H'.get b = some x) : TwAt H0 H' v l := by
  obtain ⟨b, h1, h2, h3, h4⟩ := h
  exact ⟨b, h1, h2, h3, k _ _ h4 rfl rfl⟩
theorem TwAt.acts {H0 H : Heap} {v : Value} {l : List Act} (h : TwAt H0 H v l) : ActsAt H v l := by
  obtain ⟨b, rfl, h2, h3, h4⟩ := h
  refine ⟨_, openCap, rfl, fun _ => ⟨by unfold openCap; omega, b, 0, _, rfl, h4, fun i hi => ?_⟩⟩
  simp only [Nat.zero_add]
  refine ⟨by rw [actC_len, List.length_append, List.length_singleton]; omega, ?_⟩
  rw [actC_at _ i (by rw [List.length_append]; omega), List.getElem_append_left hi]
structure Twin (H0 H : Heap) (hv : Value) (ts : List (List Act)) (av : Nat → Value) (k : Nat) : Prop where
  ext : Ext H0 H
  out : OwnL (fun b => H0.next ≤ b) H 1 45 hv k ((List.range k).map av)
  tw : ∀ i (h : i < ts.length), i < k → TwAt H0 H (av i) ts[i]
theorem twin_W {H : Heap} (hw : WF H) {tv : Value} {ts : List (List Act)} {av : Nat → Value} (ht : TasksAt H tv ts av) (hN : ts.length ≤ 40) (hl : ∀ l ∈ ts, l.length ≤ 1048576) :
    CW Try.prog 10 #[tv] H fun x H' => ∃ hv av', x = .ret hv ∧ Twin H H' hv ts av' ts.length := by
  refine CW_k (n := 29) if10 rfl ?_
  unfold C10
  obtain ⟨ta, tc, htv, _⟩ := id ht.rd
  simp only [List.length_map, List.length_range] at htv
  simp -implicitDefEqProofs (maxDischargeDepth := 6) (maxSteps := 1000000) only [go_sem, ↓reduceIte, Nat.reduceLT, Nat.reduceLeDiff, Nat.reduceEqDiff, Nat.reduceAdd, Nat.reduceMul, Nat.reduceSub, Nat.reduceBEq, reduceCtorEq, Int.reduceEq, Int.reduceLT, Int.reduceLE, Int.reduceNeg, Int.reduceToNat, htv]
  refine Wk_loopF (fun m f G => ∃ k lv av', m = ts.length - k ∧ k ≤ ts.length ∧ f.get 0 = some (.slice ta ts.length tc) ∧ f.get 3 = some lv ∧ f.get 4 = some (nv k) ∧ Twin H G lv ts av' k) ts.length ?_ ?_
  · refine ⟨0, .slice none 0 0, fun _ => .slice none 0 0, by omega, by omega, ?_, ?_, ?_, Ext.refl hw, .inl ⟨rfl, rfl, rfl⟩, fun i hi hk => absurd hk (by omega)⟩
    all_goals simp -implicitDefEqProofs (maxDischargeDepth := 6) (maxSteps := 1000000) only [go_sem, ↓reduceIte, Nat.reduceLT, Nat.reduceLeDiff, Nat.reduceEqDiff, Nat.reduceAdd, Nat.reduceMul, Nat.reduceSub, Nat.reduceBEq, reduceCtorEq, Int.reduceEq, Int.reduceLT, Int.reduceLE, Int.reduceNeg, Int.reduceToNat, nv]
    rfl
  rintro m f G ⟨k, lv, av', rfl, hk, f0, f3, f4, hT⟩
  unfold L10_1
  by_cases hlt : k < ts.length
  case neg =>
    have hltZ : ¬ (k : Int) < (ts.length : Int) := by omega
    obtain rfl : k = ts.length := by omega
    simp -implicitDefEqProofs (maxDischargeDepth := 6) (maxSteps := 1000000) only [go_sem, ↓reduceIte, Nat.reduceLT, Nat.reduceLeDiff, Nat.reduceEqDiff, Nat.reduceAdd, Nat.reduceMul, Nat.reduceSub, Nat.reduceBEq, reduceCtorEq, Int.reduceEq, Int.reduceLT, Int.reduceLE, Int.reduceNeg, Int.reduceToNat, f0, f3, f4, nv, goInt, hltZ]
    exact ⟨lv, av', rfl, hT⟩
  have hltZ : (k : Int) < (ts.length : Int) := by omega
  have hk0 : (0 : Int) ≤ (k : Int) := by omega
  have hw1 : IntKind.i64.wrap ((k : Int) + 1) = ((k + 1 : Nat) : Int) := IntWalk.i64_in _ (by omega)
  obtain ⟨b, o, c, x, hv, hc, hx, hxk⟩ := (ht.of hw hT.ext).rd.at_ (i := k) (by simpa using hlt)
  rw [htv] at hv
  simp only [Value.slice.injEq, List.length_map, List.length_range, true_and] at hv
  obtain ⟨rfl, rfl⟩ := hv
  simp only [List.getElem_map, List.getElem_range] at hxk
  have hA := (ht.of hw hT.ext).acts k hlt
  obtain ⟨la, lc, hlv⟩ := hA.len
  have hll := hl _ (List.getElem_mem hlt)
  rw [hlv] at hA hxk
  have hnG := hT.ext.wf.1
  simp -implicitDefEqProofs (maxDischargeDepth := 6) (maxSteps := 1000000) only [go_sem, ↓reduceIte, Nat.reduceLT, Nat.reduceLeDiff, Nat.reduceEqDiff, Nat.reduceAdd, Nat.reduceMul, Nat.reduceSub, Nat.reduceBEq, reduceCtorEq, Int.reduceEq, Int.reduceLT, Int.reduceLE, Int.reduceNeg, Int.reduceToNat, f0, f3, f4, nv, goInt, hltZ, hk0, hc, hx, hxk]
  refine Wk_w_c rfl rfl ?_
  simp -implicitDefEqProofs (maxDischargeDepth := 6) (maxSteps := 1000000) only [go_sem, ↓reduceIte, Nat.reduceLT, Nat.reduceLeDiff, Nat.reduceEqDiff, Nat.reduceAdd, Nat.reduceMul, Nat.reduceSub, Nat.reduceBEq, reduceCtorEq, Int.reduceEq, Int.reduceLT, Int.reduceLE, Int.reduceNeg, Int.reduceToNat, f0, f3, f4]
  have hEb := Ext.bump (Ext.refl hT.ext.wf) 19
  obtain ⟨v1, G1, ha1, hE1, hO1⟩ := appNilA hEb.wf (hA.of fun b x hb => hEb.of hT.ext.wf hb) hll
  refine cK_vh ha1 ?_
  obtain ⟨va, vc, rfl⟩ := hO1.sl
  have hle1 : G.next + 19 ≤ G1.next := hE1.le
  have hx1 := (hEb.trans hE1).of hT.ext.wf hx
  simp -implicitDefEqProofs (maxDischargeDepth := 6) (maxSteps := 1000000) only [go_sem, ↓reduceIte, Nat.reduceLT, Nat.reduceLeDiff, Nat.reduceEqDiff, Nat.reduceAdd, Nat.reduceMul, Nat.reduceSub, Nat.reduceBEq, reduceCtorEq, Int.reduceEq, Int.reduceLT, Int.reduceLE, Int.reduceNeg, Int.reduceToNat, ]
  refine Wk_w_c rfl rfl ?_
  simp -implicitDefEqProofs (maxDischargeDepth := 6) (maxSteps := 1000000) only [go_sem, ↓reduceIte, Nat.reduceLT, Nat.reduceLeDiff, Nat.reduceEqDiff, Nat.reduceAdd, Nat.reduceMul, Nat.reduceSub, Nat.reduceBEq, reduceCtorEq, Int.reduceEq, Int.reduceLT, Int.reduceLE, Int.reduceNeg, Int.reduceToNat, ]
  have hE2 := (hEb.trans hE1).set (b := G.next + 7) (by omega) (by omega) (⟨47, 0, false, spareA.cells⟩ : Blk)
  have hO2 := hO1.frame (p' := fun b => G.next ≤ b) (H' := G1.set (G.next + 7) ⟨47, 0, false, spareA.cells⟩) fun b x hb hg => ⟨by
    have hb : G.next + 19 ≤ b := hb
    show G.next ≤ b
    omega, by
    have hb : G.next + 19 ≤ b := hb
    rw [get_set_ne (by omega)]; exact hg⟩
  obtain ⟨H6, ha6, hE6, hO6, hn6, hk6⟩ := appO (bytes := 32) (nb := G.next + 7) (x := ⟨47, 0, false, spareA.cells⟩) (vs := spareA.cells) hE2 hO2 (get_set_eq (by omega)) rfl rfl (by omega) ac_one (by omega) (by omega)
  refine cK_vh ha6 ?_
  simp only [next_set] at ha6 hO6 hn6
  have hx6 := hE6.of hT.ext.wf hx
  have hxb := hEb.of hT.ext.wf hx
  simp -implicitDefEqProofs (maxDischargeDepth := 6) (maxSteps := 1000000) only [go_sem, ↓reduceIte, Nat.reduceLT, Nat.reduceLeDiff, Nat.reduceEqDiff, Nat.reduceAdd, Nat.reduceMul, Nat.reduceSub, Nat.reduceBEq, reduceCtorEq, Int.reduceEq, Int.reduceLT, Int.reduceLE, Int.reduceNeg, Int.reduceToNat, f0, f4, goInt, hltZ, nv, hk0, hc, hx6, hxk]
  refine wrK_some ?_ ?_
  · simp -implicitDefEqProofs (maxDischargeDepth := 6) (maxSteps := 1000000) only [go_sem, ↓reduceIte, Nat.reduceLT, Nat.reduceLeDiff, Nat.reduceEqDiff, Nat.reduceAdd, Nat.reduceMul, Nat.reduceSub, Nat.reduceBEq, reduceCtorEq, Int.reduceEq, Int.reduceLT, Int.reduceLE, Int.reduceNeg, Int.reduceToNat, hsK, f0, f4, hxb, hx1, hxk]
  have hs := sliceS_pre (k := ts[k].length) hO6 (by omega) (by omega)
  obtain ⟨l1, l2, rfl⟩ := hT.out.sl
  simp -implicitDefEqProofs (maxDischargeDepth := 6) (maxSteps := 1000000) only [go_sem, ↓reduceIte, Nat.reduceLT, Nat.reduceLeDiff, Nat.reduceEqDiff, Nat.reduceAdd, Nat.reduceMul, Nat.reduceSub, Nat.reduceBEq, reduceCtorEq, Int.reduceEq, Int.reduceLT, Int.reduceLE, Int.reduceNeg, Int.reduceToNat, hs, goInt, hx6, hxk]
  refine wrK_some ?_ ?_
  · simp -implicitDefEqProofs (maxDischargeDepth := 6) (maxSteps := 1000000) only [go_sem, ↓reduceIte, Nat.reduceLT, Nat.reduceLeDiff, Nat.reduceEqDiff, Nat.reduceAdd, Nat.reduceMul, Nat.reduceSub, Nat.reduceBEq, reduceCtorEq, Int.reduceEq, Int.reduceLT, Int.reduceLE, Int.reduceNeg, Int.reduceToNat, hsK]
  simp -implicitDefEqProofs (maxDischargeDepth := 6) (maxSteps := 1000000) only [go_sem, ↓reduceIte, Nat.reduceLT, Nat.reduceLeDiff, Nat.reduceEqDiff, Nat.reduceAdd, Nat.reduceMul, Nat.reduceSub, Nat.reduceBEq, reduceCtorEq, Int.reduceEq, Int.reduceLT, Int.reduceLE, Int.reduceNeg, Int.reduceToNat, f3]
  refine Wk_w_c rfl rfl ?_
  simp -implicitDefEqProofs (maxDischargeDepth := 6) (maxSteps := 1000000) only [go_sem, ↓reduceIte, Nat.reduceLT, Nat.reduceLeDiff, Nat.reduceEqDiff, Nat.reduceAdd, Nat.reduceMul, Nat.reduceSub, Nat.reduceBEq, reduceCtorEq, Int.reduceEq, Int.reduceLT, Int.reduceLE, Int.reduceNeg, Int.reduceToNat, ]
  have hE7 := hE6.set (b := G.next + 15) (by omega) (by omega) (⟨45, 0, false, [.slice (some ⟨G1.next, 0, none⟩) ts[k].length openCap]⟩ : Blk)
  have hO7 := hT.out.frame (p' := fun b => H.next ≤ b) fun b x hb hg => ⟨hb, hE7.of hT.ext.wf hg⟩
  obtain ⟨H8, ha8, hE8, hO8, hn8, hk8⟩ := appO (bytes := 24) (nb := G.next + 15) (x := ⟨45, 0, false, [.slice (some ⟨G1.next, 0, none⟩) ts[k].length openCap]⟩) (vs := [.slice (some ⟨G1.next, 0, none⟩) ts[k].length openCap]) (hT.ext.trans hE7) hO7 (get_set_eq (by omega)) rfl rfl (by omega) rfl (by omega) (by omega)
  refine cK_vh ha8 ?_
  simp -implicitDefEqProofs (maxDischargeDepth := 6) (maxSteps := 1000000) only [go_sem, ↓reduceIte, Nat.reduceLT, Nat.reduceLeDiff, Nat.reduceEqDiff, Nat.reduceAdd, Nat.reduceMul, Nat.reduceSub, Nat.reduceBEq, reduceCtorEq, Int.reduceEq, Int.reduceLT, Int.reduceLE, Int.reduceNeg, Int.reduceToNat, f0, f4, nv, hw1]
  simp only [next_set] at hO8 hn8
  refine ⟨ts.length - (k + 1), by omega, k + 1, .slice (some ⟨H6.next, 0, none⟩) (k + 1) openCap, upd av' k (.slice (some ⟨G1.next, 0, none⟩) ts[k].length openCap), rfl, by omega, ?_, ?_, ?_, hE8, ?_, fun i hi hik => ?_⟩
  · simp only [Tr.get_put, Nat.reduceEqDiff, ↓reduceIte, f0]
  · simp -implicitDefEqProofs (maxDischargeDepth := 6) (maxSteps := 1000000) only [go_sem, ↓reduceIte, Nat.reduceLT, Nat.reduceLeDiff, Nat.reduceEqDiff, Nat.reduceAdd, Nat.reduceMul, Nat.reduceSub, Nat.reduceBEq, reduceCtorEq, Int.reduceEq, Int.reduceLT, Int.reduceLE, Int.reduceNeg, Int.reduceToNat, ]
  · simp only [Tr.get_put, Nat.reduceEqDiff, ↓reduceIte, nv]
  · rw [List.range_succ, List.map_append]
    have e1 : (List.range k).map (upd av' k (.slice (some ⟨G1.next, 0, none⟩) ts[k].length openCap)) = (List.range k).map av' := by
      apply List.map_congr_left
      intro j hj
      exact upd_ne (by have := List.mem_range.1 hj; omega)
    rw [e1]
    simp only [List.map_cons, List.map_nil, upd_same]
    exact hO8
  · have up : ∀ b x, (H6.set (G.next + 15) ⟨45, 0, false, [.slice (some ⟨G1.next, 0, none⟩) ts[k].length openCap]⟩).get b = some x → x.opn = true → x.ty = 47 → H8.get b = some x := fun b x hb _ h2 => hk8 b x hb (.inr (by rw [h2]; decide))
    by_cases e : i = k
    · subst e
      rw [upd_same]
      rcases hO6 with ⟨q1, _⟩ | ⟨b6, o6, pre, q1, q2, q3, q4, q5, _⟩
      · cases q1
      · simp only [Value.slice.injEq, Option.some.injEq, Addr.mk.injEq, and_true] at q1
        obtain ⟨rfl, e0⟩ := q1
        have hp : pre = [] := List.eq_nil_of_length_eq_zero (q5.trans e0.symm)
        subst hp
        have hgt := hT.ext.le
        have q3 : G.next ≤ G1.next := q3
        refine ⟨G1.next, rfl, q2, by omega, up _ _ ?_ rfl rfl⟩
        rw [get_set_ne (by omega), q4, List.nil_append, actC_app]
        simp [actC]
    · rw [upd_ne e]
      refine (hT.tw i hi (by omega)).of fun b x hb h1 h2 => up b x ?_ h1 h2
      exact hE7.of hT.ext.wf hb
theorem sliceS_up {H : Heap} {b n : Nat} {cs : List Value} (hx : H.get b = some ⟨47, 4, true, cs⟩) (hl : cs.length = (n + 1) * 4) :
    sliceS H 4 (some ⟨b, 0, none⟩) n openCap none (some (.int .i64 ((n + 1 : Nat) : Int))) none = some (.slice (some ⟨b, 0, none⟩) (n + 1) openCap) := by
  unfold sliceS
  rw [if_pos rfl]
  have e : (cs.length - 0) / 4 = n + 1 := by rw [hl]; omega
  have hb : boundA (some (.int .i64 ((n + 1 : Nat) : Int))) n (n + 1) = some (n + 1) := by
    unfold boundA
    have : 0 ≤ ((n + 1 : Nat) : Int) ∧ ((n + 1 : Nat) : Int) ≤ ((n + 1 : Nat) : Int) := by omega
    dsimp only
    rw [if_pos this, Int.toNat_natCast]
  simp only [Option.isSome_none, Bool.false_or, hx, Option.bind_eq_bind, Option.bind_some, e, hb]
  simp [boundA]
theorem kept_W {H : Heap} {hv tv : Value} {ts : List (List Act)} {av av' : Nat → Value} (hN : ts.length ≤ 1048576) (hl : ∀ l ∈ ts, l.length ≤ 1048576) (hr : RdI H hv ((List.range ts.length).map av')) (hT : ∀ i (h : i < ts.length), ∃ H0, TwAt H0 H (av' i) ts[i]) (ht : TasksAt H tv ts av) :
    CW Try.prog 19 #[hv, tv] H fun x H' => x = .ret (.bool true) ∧ H = H' := by
  refine CW_k (n := 60) if19 rfl ?_
  unfold C19
  obtain ⟨ta, tc, htv, _⟩ := id ht.rd
  obtain ⟨ha, hc0, hhv, _⟩ := id hr
  simp only [List.length_map, List.length_range] at htv hhv
  simp -implicitDefEqProofs (maxDischargeDepth := 6) (maxSteps := 1000000) only [go_sem, ↓reduceIte, Nat.reduceLT, Nat.reduceLeDiff, Nat.reduceEqDiff, Nat.reduceAdd, Nat.reduceMul, Nat.reduceSub, Nat.reduceBEq, reduceCtorEq, Int.reduceEq, Int.reduceLT, Int.reduceLE, Int.reduceNeg, Int.reduceToNat, htv, hhv]
  refine Wk_loopF (fun m f G => ∃ k, m = ts.length - k ∧ k ≤ ts.length ∧ f.get 0 = some (.slice ha ts.length hc0) ∧ f.get 1 = some (.slice ta ts.length tc) ∧ f.get 5 = some (nv k) ∧ G = H) ts.length ?_ ?_
  · refine ⟨0, by omega, by omega, ?_, ?_, ?_, rfl⟩
    all_goals simp -implicitDefEqProofs (maxDischargeDepth := 6) (maxSteps := 1000000) only [go_sem, ↓reduceIte, Nat.reduceLT, Nat.reduceLeDiff, Nat.reduceEqDiff, Nat.reduceAdd, Nat.reduceMul, Nat.reduceSub, Nat.reduceBEq, reduceCtorEq, Int.reduceEq, Int.reduceLT, Int.reduceLE, Int.reduceNeg, Int.reduceToNat, nv]
    rfl
  rintro m f G ⟨k, rfl, hk, f0, f1, f5, hG⟩
  subst G
  unfold L19_2
  by_cases hlt : k < ts.length
  case neg =>
    have hltZ : ¬ (k : Int) < (ts.length : Int) := by omega
    simp -implicitDefEqProofs (maxDischargeDepth := 6) (maxSteps := 1000000) only [go_sem, ↓reduceIte, Nat.reduceLT, Nat.reduceLeDiff, Nat.reduceEqDiff, Nat.reduceAdd, Nat.reduceMul, Nat.reduceSub, Nat.reduceBEq, reduceCtorEq, Int.reduceEq, Int.reduceLT, Int.reduceLE, Int.reduceNeg, Int.reduceToNat, f0, f1, f5, nv, goInt, hltZ]
  have hltZ : (k : Int) < (ts.length : Int) := by omega
  have hk0 : (0 : Int) ≤ (k : Int) := by omega
  have hw1 : IntKind.i64.wrap ((k : Int) + 1) = ((k + 1 : Nat) : Int) := IntWalk.i64_in _ (by omega)
  obtain ⟨b, o, c, x, hv', hc, hx, hxk⟩ := ht.rd.at_ (i := k) (by simpa using hlt)
  rw [htv] at hv'
  simp only [Value.slice.injEq, List.length_map, List.length_range, true_and] at hv'
  obtain ⟨rfl, rfl⟩ := hv'
  simp only [List.getElem_map, List.getElem_range] at hxk
  obtain ⟨b', o', c', x', hv', hc', hx', hxk'⟩ := hr.at_ (i := k) (by simpa using hlt)
  rw [hhv] at hv'
  simp only [Value.slice.injEq, List.length_map, List.length_range, true_and] at hv'
  obtain ⟨rfl, rfl⟩ := hv'
  simp only [List.getElem_map, List.getElem_range] at hxk'
  have hA := ht.acts k hlt
  obtain ⟨la, lc, hlv⟩ := hA.len
  obtain ⟨_, hW⟩ := hT k hlt
  have hB := hW.acts
  obtain ⟨tb, htw, tb0, _, htb⟩ := hW
  have hll := hl _ (List.getElem_mem hlt)
  generalize hl' : ts[k] = l at *
  have hlc : ((l.length : Int)) = (l.length : Int) := rfl
  have hw2 : IntKind.i64.wrap ((l.length : Int) + 1) = ((l.length + 1 : Nat) : Int) := IntWalk.i64_in _ (by omega)
  have hsl : sliceS H 4 (some ⟨tb, 0, none⟩) l.length openCap none (some (.int .i64 ((l.length + 1 : Nat) : Int))) none = some (.slice (some ⟨tb, 0, none⟩) (l.length + 1) openCap) :=
    sliceS_up htb (by rw [actC_len, List.length_append, List.length_singleton])
  have hoc : ¬ openCap = 0 := by unfold openCap; omega
  have hsp : (actC (l ++ [spareA]))[l.length * 4]? = some (.int .i64 (-3)) := by
    have := cells_0 (actC_at (l ++ [spareA]) l.length (by simp))
    simpa [spareA] using this
  have hln : (l.length : Int) < ((l.length + 1 : Nat) : Int) := by omega
  have hl0 : (0 : Int) ≤ (l.length : Int) := by omega
  simp -implicitDefEqProofs (maxDischargeDepth := 6) (maxSteps := 1000000) only [go_sem, ↓reduceIte, Nat.reduceLT, Nat.reduceLeDiff, Nat.reduceEqDiff, Nat.reduceAdd, Nat.reduceMul, Nat.reduceSub, Nat.reduceBEq, reduceCtorEq, Int.reduceEq, Int.reduceLT, Int.reduceLE, Int.reduceNeg, Int.reduceToNat, f0, f1, f5, nv, goInt, hltZ, hk0, hc, hx, hxk, hc', hx', hxk', hlv, htw, hw2, hsl, hoc, htb, hsp, hln, hl0]
  refine Wk_loopF (fun m f G => ∃ j, m = l.length - j ∧ j ≤ l.length ∧ f.get 0 = some (.slice (some ⟨b', o', none⟩) ts.length hc0) ∧ f.get 1 = some (.slice (some ⟨b, o, none⟩) ts.length tc) ∧ f.get 5 = some (nv k) ∧ f.get 6 = some (nv l.length) ∧ f.get 7 = some (nv j) ∧ G = H) l.length ?_ ?_
  · refine ⟨0, by omega, by omega, ?_, ?_, ?_, ?_, ?_, rfl⟩
    all_goals simp -implicitDefEqProofs (maxDischargeDepth := 6) (maxSteps := 1000000) only [go_sem, ↓reduceIte, Nat.reduceLT, Nat.reduceLeDiff, Nat.reduceEqDiff, Nat.reduceAdd, Nat.reduceMul, Nat.reduceSub, Nat.reduceBEq, reduceCtorEq, Int.reduceEq, Int.reduceLT, Int.reduceLE, Int.reduceNeg, Int.reduceToNat, nv, f0, f1, f5]
    rfl
  clear f0 f1 f5
  rintro m f G ⟨j, rfl, hj, f0, f1, f5, f6, f7, hG⟩
  subst G
  unfold L19_1
  by_cases hjl : j < l.length
  · have hjZ : (j : Int) < (l.length : Int) := by omega
    have hj0 : (0 : Int) ≤ (j : Int) := by omega
    have hw3 : IntKind.i64.wrap ((j : Int) + 1) = ((j + 1 : Nat) : Int) := IntWalk.i64_in _ (by omega)
    obtain ⟨b2, o2, c2, x2, hv2, hc2, hx2, hle2, hcs2⟩ := hA.at_ hjl
    rw [hlv] at hv2
    simp only [Value.slice.injEq, true_and] at hv2
    obtain ⟨rfl, rfl⟩ := hv2
    obtain ⟨b3, o3, c3, x3, hv3, hc3, hx3, hle3, hcs3⟩ := hB.at_ hjl
    rw [htw] at hv3
    simp only [Value.slice.injEq, Option.some.injEq, Addr.mk.injEq, true_and, and_true] at hv3
    obtain ⟨⟨rfl, rfl⟩, rfl⟩ := hv3
    simp only [Nat.zero_add] at hle3 hcs3
    simp only [Act.cells] at hcs2 hcs3
    simp -implicitDefEqProofs (maxDischargeDepth := 6) (maxSteps := 1000000) only [go_sem, ↓reduceIte, Nat.reduceLT, Nat.reduceLeDiff, Nat.reduceEqDiff, Nat.reduceAdd, Nat.reduceMul, Nat.reduceSub, Nat.reduceBEq, reduceCtorEq, Int.reduceEq, Int.reduceLT, Int.reduceLE, Int.reduceNeg, Int.reduceToNat, f0, f1, f5, f6, f7, nv, goInt, hjZ, hj0, hk0, hltZ, hc, hx, hxk, hc', hx', hxk', hlv, htw, hc2, hx2, hle2, hcs2, hc3, hx3, hle3, hcs3, loads_eq, hw3]
    refine ⟨l.length - (j + 1), by omega, j + 1, rfl, by omega, ?_, ?_, ?_, ?_, ?_, rfl⟩
    · simp only [Tr.get_put, Nat.reduceEqDiff, ↓reduceIte, f0]
    · simp only [Tr.get_put, Nat.reduceEqDiff, ↓reduceIte, f1]
    · simp only [Tr.get_put, Nat.reduceEqDiff, ↓reduceIte, f5, nv]
    · simp only [Tr.get_put, Nat.reduceEqDiff, ↓reduceIte, f6, nv]
    · simp only [Tr.get_put, Nat.reduceEqDiff, ↓reduceIte, nv]
  have hjZ : ¬ (j : Int) < (l.length : Int) := by omega
  simp -implicitDefEqProofs (maxDischargeDepth := 6) (maxSteps := 1000000) only [go_sem, ↓reduceIte, Nat.reduceLT, Nat.reduceLeDiff, Nat.reduceEqDiff, Nat.reduceAdd, Nat.reduceMul, Nat.reduceSub, Nat.reduceBEq, reduceCtorEq, Int.reduceEq, Int.reduceLT, Int.reduceLE, Int.reduceNeg, Int.reduceToNat, f0, f1, f5, f6, f7, nv, hjZ, hw1]
  refine ⟨ts.length - (k + 1), by omega, k + 1, rfl, by omega, ?_, ?_, ?_, rfl⟩
  · simp only [Tr.get_put, Nat.reduceEqDiff, ↓reduceIte, f0]
  · simp only [Tr.get_put, Nat.reduceEqDiff, ↓reduceIte, f1]
  · simp only [Tr.get_put, Nat.reduceEqDiff, ↓reduceIte, nv]
end Go.Am.T
namespace Go.Am.T
open Go Go.Am Go.Proofs.Ythanhcpnhionaaa Go.Proofs
structure Out5 where
  st : Int
  tr : List (Int × Int)
  rg : List Int
  en : List (Int × Int)
  qs : List (List Int)
def out5 (ts : List (List Act)) (room : Int) (picks : List Int) (most : Int) : Out5 :=
  if askedP ts room picks most = 0 then ⟨(runM most.toNat (S0 ts room) picks).trace.length, trI (runM most.toNat (S0 ts room) picks), rgI (runM most.toNat (S0 ts room) picks), enI (runM most.toNat (S0 ts room) picks), qsI (runM most.toNat (S0 ts room) picks)⟩
  else ⟨0, [], [], [], []⟩
structure Small5 (o : Out5) : Prop where
  l1 : o.tr.length ≤ 70368744177664
  l2 : o.rg.length ≤ 70368744177664
  l3 : o.en.length ≤ 70368744177664
  l4 : o.qs.length ≤ 70368744177664
  l5 : ∀ q ∈ o.qs, q.length ≤ 70368744177664
theorem small5 {ts : List (List Act)} {room most : Int} {picks : List Int} : Small5 (out5 ts room picks most) := by
  unfold out5
  by_cases h : askedP ts room picks most = 0
  case neg => rw [if_neg h]; exact ⟨by simp, by simp, by simp, by simp, by simp⟩
  rw [if_pos h]
  have hf := asked_ok h
  have ok := okR_run most.toNat picks hf.okR
  have hl := runM_len most.toNat (S := S0 ts room) picks
  have h0 : (S0 ts room).trace.length = 0 := rfl
  have hm := hf.m2
  have hN := ok.N
  refine ⟨?_, ?_, ?_, ?_, ?_⟩
  · show (trI _).length ≤ _
    rw [trI, List.length_map]; omega
  · show (rgI _).length ≤ _
    rw [rgI, List.length_map, List.length_range]; omega
  · show (enI _).length ≤ _
    rw [enI, List.length_map, List.length_range]; omega
  · show (qsI _).length ≤ _
    rw [qsI, List.length_map, List.length_range]; omega
  · intro q hq
    have hq : q ∈ qsI (runM most.toNat (S0 ts room) picks) := hq
    rw [qsI, List.mem_map] at hq
    obtain ⟨j, _, rfl⟩ := hq
    have := ok.qb j
    omega
structure RanO (lo : Nat) (H : Heap) (o : Out5) (trv rgv ev qsv : Value) (qv : Nat → Value) : Prop where
  tr_ : OwnL (fun b => lo ≤ b) H 2 39 trv o.tr.length (prC o.tr)
  rg_ : OwnL (fun b => lo ≤ b) H 1 2 rgv o.rg.length (o.rg.map iv)
  en_ : OwnL (fun b => lo ≤ b) H 2 49 ev o.en.length (prC o.en)
  qs_ : OwnL (fun b => lo ≤ b) H 1 29 qsv o.qs.length ((List.range o.qs.length).map qv)
  q_ : ∀ j (h : j < o.qs.length), OwnL (fun b => lo ≤ b) H 1 2 (qv j) (o.qs[j]).length ((o.qs[j]).map iv)
theorem RanO.view {lo : Nat} {H : Heap} {o : Out5} {trv rgv ev qsv : Value} {qv : Nat → Value} (h : RanO lo H o trv rgv ev qsv qv) : RanV H trv rgv ev qsv o.tr o.rg o.en o.qs :=
  ⟨h.tr_.pr rfl, h.rg_.rd, h.en_.pr rfl, qv, h.qs_.rd, fun j hj => (h.q_ j hj).rd⟩
theorem RanAt.o {lo : Nat} {H : Heap} {S : Sx} {trv rgv ev qsv : Value} {qv : Nat → Value} (h : RanAt lo H S trv rgv ev qsv qv) : RanO lo H ⟨S.trace.length, trI S, rgI S, enI S, qsI S⟩ trv rgv ev qsv qv := by
  refine ⟨?_, ?_, ?_, ?_, ?_⟩
  · have := h.trace
    show OwnL _ H 2 39 trv (trI S).length (prC (trI S))
    rw [trC_prC] at this
    rwa [trI, List.length_map]
  · have := h.regs
    show OwnL _ H 1 2 rgv (rgI S).length ((rgI S).map iv)
    rwa [rgI, List.length_map, List.length_range, List.map_map]
  · have := h.ends
    rw [flat_prC] at this
    show OwnL _ H 2 49 ev (enI S).length (prC (enI S))
    rwa [enI, List.length_map, List.length_range]
  · have := h.queues
    show OwnL _ H 1 29 qsv (qsI S).length ((List.range (qsI S).length).map qv)
    rwa [qsI, List.length_map, List.length_range]
  · intro j hj
    have hj' : j < 4 := by simpa [qsI] using hj
    have := h.queue j hj'
    simpa [qsI] using this
theorem RanO.nil {lo : Nat} {H : Heap} : RanO lo H ⟨0, [], [], [], []⟩ (.slice none 0 0) (.slice none 0 0) (.slice none 0 0) (.slice none 0 0) (fun _ => .slice none 0 0) :=
  ⟨.inl ⟨rfl, rfl, rfl⟩, .inl ⟨rfl, rfl, rfl⟩, .inl ⟨rfl, rfl, rfl⟩, .inl ⟨rfl, rfl, rfl⟩, fun j hj => absurd hj (by simp)⟩
def RunO (H : Heap) (ts : List (List Act)) (room : Int) (picks : List Int) (most : Int) (x : CR) (H' : Heap) : Prop :=
  ∃ trv rgv ev qsv qv, x = .ret (.tuple #[.agg #[.int .i64 (out5 ts room picks most).st, trv, rgv, ev, qsv], .int .i64 (askedP ts room picks most)]) ∧ RanO H.next H' (out5 ts room picks most) trv rgv ev qsv qv
theorem runO_of {H H' : Heap} {ts : List (List Act)} {room : Int} {picks : List Int} {most : Int} {x : CR}
    (h1 : askedP ts room picks most ≠ 0 → x = .ret (.tuple #[.agg #[.int .i64 0, .slice none 0 0, .slice none 0 0, .slice none 0 0, .slice none 0 0], .int .i64 (askedP ts room picks most)]))
    (h2 : askedP ts room picks most = 0 → ∃ trv rgv ev qsv qv, x = .ret (.tuple #[.agg #[nv (runM most.toNat (S0 ts room) picks).trace.length, trv, rgv, ev, qsv], .int .i64 0]) ∧ RanAt H.next H' (runM most.toNat (S0 ts room) picks) trv rgv ev qsv qv) : RunO H ts room picks most x H' := by
  unfold RunO
  by_cases h : askedP ts room picks most = 0
  · obtain ⟨trv, rgv, ev, qsv, qv, rfl, hA⟩ := h2 h
    have e : out5 ts room picks most = ⟨(runM most.toNat (S0 ts room) picks).trace.length, trI (runM most.toNat (S0 ts room) picks), rgI (runM most.toNat (S0 ts room) picks), enI (runM most.toNat (S0 ts room) picks), qsI (runM most.toNat (S0 ts room) picks)⟩ := if_pos h
    rw [e, h]
    exact ⟨trv, rgv, ev, qsv, qv, rfl, hA.o⟩
  · have e : out5 ts room picks most = ⟨0, [], [], [], []⟩ := if_neg h
    rw [e, h1 h]
    exact ⟨_, _, _, _, _, rfl, RanO.nil⟩
structure Shp (lo ty : Nat) (G G' : Heap) : Prop where
  wf : WF G'
  next : G'.next = G.next
  sh : ∀ b x, G.get b = some x → ∃ cs, cs.length = x.cells.length ∧ G'.get b = some { x with cells := cs }
  eq : ∀ b x, G.get b = some x → ¬ (lo ≤ b ∧ x.opn = true ∧ x.ty = ty) → G'.get b = some x
section
variable {lo ty : Nat} {G G' G'' : Heap}
theorem Shp.refl (hw : WF G) : Shp lo ty G G := ⟨hw, rfl, fun b x hb => ⟨x.cells, rfl, hb⟩, fun _ _ hb _ => hb⟩
theorem Shp.trans (h : Shp lo ty G G') (k : Shp lo ty G' G'') : Shp lo ty G G'' := by
  refine ⟨k.wf, k.next.trans h.next, fun b x hb => ?_, fun b x hb hn => k.eq b x (h.eq b x hb hn) hn⟩
  obtain ⟨cs, h1, h2⟩ := h.sh b x hb
  obtain ⟨cs', h3, h4⟩ := k.sh b _ h2
  exact ⟨cs', h3.trans h1, h4⟩
theorem Shp.set (hw : WF G) {b : Nat} {x : Blk} (hb0 : base0 ≤ b) (hb : G.get b = some x) (hlo : lo ≤ b) (ho : x.opn = true) (ht : x.ty = ty) {cs : List Value} (hl : cs.length = x.cells.length) : Shp lo ty G (G.set b { x with cells := cs }) := by
  refine ⟨hw.set (hw.lt hb) _, next_set, fun c y hc => ?_, fun c y hc hn => ?_⟩
  · by_cases e : c = b
    · subst e
      rw [hb] at hc; cases hc
      exact ⟨cs, hl, get_set_eq hb0⟩
    · exact ⟨y.cells, rfl, by rw [get_set_ne e]; exact hc⟩
  · rw [get_set_ne]
    · exact hc
    · rintro rfl
      rw [hb] at hc; cases hc
      exact hn ⟨hlo, ho, ht⟩
theorem Shp.own (h : Shp lo ty G G') {p : Nat → Prop} {es t n : Nat} {v : Value} {cs : List Value} (ho : OwnL p G es t v n cs) : ∃ cs', OwnL p G' es t v n cs' := by
  rcases ho with ⟨h1, h2, h3⟩ | ⟨b, o, pre, h1, h2, h3, h4, h5, h6⟩
  · exact ⟨cs, .inl ⟨h1, h2, h3⟩⟩
  · obtain ⟨cs', k1, k2⟩ := h.sh b _ h4
    simp only [List.length_append] at k1
    refine ⟨cs'.drop o, .inr ⟨b, o, cs'.take o, h1, h2, h3, ?_, ?_, ?_⟩⟩
    · rw [k2, List.take_append_drop]
    · rw [List.length_take]; omega
    · rw [List.length_drop]; omega
theorem Shp.ownE (h : Shp lo ty G G') {p : Nat → Prop} {es t n : Nat} {v : Value} {cs : List Value} (hne : t ≠ ty) (ho : OwnL p G es t v n cs) : OwnL p G' es t v n cs :=
  ho.frameO fun b x hb hg hx => ⟨hb, h.eq b x hg fun q => hne (hx.2.symm.trans q.2.2)⟩
end
theorem stoK_n {H : Heap} {b o : Nat} {vs : List Value} {x : Blk} (hb : base0 ≤ b) (ho : o + vs.length ≤ x.cells.length) (hv : vs.all Heap.oneC = true) :
    ∃ cs, cs.length = x.cells.length ∧ stoK H b o vs (some x) = some (H.set b { x with cells := cs }) := by
  refine ⟨Heap.splice x.cells o vs, ?_, ?_⟩
  · unfold Heap.splice
    simp only [List.length_append, List.length_take, List.length_drop]; omega
  · have e : stoK H b o vs (some x) = if base0 ≤ b ∧ vs.all Heap.oneC = true ∧ o + vs.length ≤ x.cells.length then some (H.set b { x with cells := Heap.splice x.cells o vs }) else none := rfl
    rw [e, if_pos ⟨hb, hv, ho⟩]
end Go.Am.T
namespace Go.Am.T
open Go Go.Am Go.Proofs.Ythanhcpnhionaaa Go.Proofs
structure JW (lo ty : Nat) (G : Heap) (f : Tr Value) (s : St) : Prop where
  n : s.n = 148
  d : s.d = []
  f : ∀ t, t < 14 → s.f.get t = f.get t
  sh : Shp lo ty G s.H
theorem wr1 {lo rb n : Nat} {G : Heap} (hw : WF G) {st trv rgv ev qsv : Value} {cs : List Value} (hb : G.get rb = some ⟨33, 0, false, [st, trv, rgv, ev, qsv]⟩) (hT : OwnL (fun b => lo ≤ b) G 2 39 trv n cs) (hn : n ≤ 70368744177664) {fs : List Fr} {Q : Ex → St → Prop} {f : Tr Value}
    (h13 : f.get 13 = some (.pointer (some ⟨rb, 0, none⟩))) (h15 : f.get 15 = some (nv 0)) :
    Wk Try.prog (.c (.block 2 (.loop L3_1)) :: .i (JW lo 39 G f) :: fs) (some ⟨148, f, [], G⟩) Q := by
  rw [Wk_block]
  refine Wk_loopF (fun m g G' => ∃ k, m = n - k ∧ k ≤ n ∧ (∀ t, t < 14 → g.get t = f.get t) ∧ g.get 15 = some (nv k) ∧ Shp lo 39 G G') n ⟨0, by omega, by omega, fun _ _ => rfl, h15, Shp.refl hw⟩ ?_
  rintro m g G' ⟨k, rfl, hk, hf, g15, hS⟩
  have g13 := (hf 13 (by omega)).trans h13
  have hb' := hS.eq _ _ hb (by simp)
  obtain ⟨cs', hT'⟩ := hS.own hT
  unfold L3_1
  by_cases hlt : k < n
  case neg =>
    obtain ⟨qa, qc, rfl⟩ := hT'.sl
    have hltZ : ¬ (k : Int) < (n : Int) := by omega
    simp -implicitDefEqProofs (maxDischargeDepth := 6) (maxSteps := 1000000) only [go_sem, ↓reduceIte, Nat.reduceLT, Nat.reduceLeDiff, Nat.reduceEqDiff, Nat.reduceAdd, Nat.reduceMul, Nat.reduceSub, Nat.reduceBEq, reduceCtorEq, Int.reduceEq, Int.reduceLT, Int.reduceLE, Int.reduceNeg, Int.reduceToNat, g13, g15, hb', goInt, nv, hltZ]
    refine ⟨rfl, rfl, fun t ht => ?_, hS⟩
    simp (disch := omega) only [Tr.get_put_ne]
    exact hf t ht
  rcases hT' with ⟨_, e0, _⟩ | ⟨b, o, pre, rfl, h2, h3, h4, h5, h6⟩
  · omega
  have hltZ : (k : Int) < (n : Int) := by omega
  have hk0 : (0 : Int) ≤ (k : Int) := by omega
  have hw1 : IntKind.i64.wrap ((k : Int) + 1) = ((k + 1 : Nat) : Int) := IntWalk.i64_in _ (by omega)
  have hoc : ¬ openCap = 0 := by unfold openCap; omega
  obtain ⟨cs2, hl2, hst⟩ := stoK_n (H := G') (b := b) (o := o + k * 2) (vs := [.int .i64 (-1), .int .i64 0]) (x := ⟨39, 2, true, pre ++ cs'⟩) h2 (by simp only [List.length_append, h5, h6, List.length_cons, List.length_nil]; omega) rfl
  simp -implicitDefEqProofs (maxDischargeDepth := 6) (maxSteps := 1000000) only [go_sem, ↓reduceIte, Nat.reduceLT, Nat.reduceLeDiff, Nat.reduceEqDiff, Nat.reduceAdd, Nat.reduceMul, Nat.reduceSub, Nat.reduceBEq, reduceCtorEq, Int.reduceEq, Int.reduceLT, Int.reduceLE, Int.reduceNeg, Int.reduceToNat, g13, g15, hb', goInt, nv, hltZ, hk0, hoc, h4, hst, hw1]
  refine ⟨n - (k + 1), by omega, k + 1, rfl, by omega, fun t ht => ?_, ?_, hS.trans (Shp.set hS.wf h2 h4 h3 rfl rfl hl2)⟩
  · simp (disch := omega) only [Tr.get_put_ne]
    exact hf t ht
  · simp only [Tr.get_put, Nat.reduceEqDiff, ↓reduceIte, nv]
theorem wr2 {lo rb n : Nat} {G : Heap} (hw : WF G) {st trv rgv ev qsv : Value} {qv : Nat → Value} {q : Nat → Nat} (hb : G.get rb = some ⟨33, 0, false, [st, trv, rgv, ev, qsv]⟩) (hO : OwnL (fun b => lo ≤ b) G 1 29 qsv n ((List.range n).map qv)) (hn : n ≤ 70368744177664)
    (hq : ∀ j, j < n → q j ≤ 70368744177664 ∧ ∃ cs, OwnL (fun b => lo ≤ b) G 1 2 (qv j) (q j) cs) {fs : List Fr} {Q : Ex → St → Prop} {f : Tr Value} (h13 : f.get 13 = some (.pointer (some ⟨rb, 0, none⟩))) (h16 : f.get 16 = some (nv 0)) :
    Wk Try.prog (.c (.block 4 (.loop L3_3)) :: .i (JW lo 2 G f) :: fs) (some ⟨148, f, [], G⟩) Q := by
  rw [Wk_block]
  refine Wk_loopF (fun m g G' => ∃ k, m = n - k ∧ k ≤ n ∧ (∀ t, t < 14 → g.get t = f.get t) ∧ g.get 16 = some (nv k) ∧ Shp lo 2 G G') n ⟨0, by omega, by omega, fun _ _ => rfl, h16, Shp.refl hw⟩ ?_
  rintro m g G' ⟨k, rfl, hk, hf, g16, hS⟩
  have g13 := (hf 13 (by omega)).trans h13
  have hb' := hS.eq _ _ hb (by simp)
  have hO' := hS.ownE (by omega) hO
  unfold L3_3
  by_cases hlt : k < n
  case neg =>
    have hltZ : ¬ (k : Int) < (n : Int) := by omega
    obtain ⟨qa, qc, rfl⟩ := hO'.sl
    simp -implicitDefEqProofs (maxDischargeDepth := 6) (maxSteps := 1000000) only [go_sem, ↓reduceIte, Nat.reduceLT, Nat.reduceLeDiff, Nat.reduceEqDiff, Nat.reduceAdd, Nat.reduceMul, Nat.reduceSub, Nat.reduceBEq, reduceCtorEq, Int.reduceEq, Int.reduceLT, Int.reduceLE, Int.reduceNeg, Int.reduceToNat, g13, g16, hb', goInt, nv, hltZ]
    refine ⟨rfl, rfl, fun t ht => ?_, hS⟩
    simp (disch := omega) only [Tr.get_put_ne]
    exact hf t ht
  have hltZ : (k : Int) < (n : Int) := by omega
  have hk0 : (0 : Int) ≤ (k : Int) := by omega
  have hw1 : IntKind.i64.wrap ((k : Int) + 1) = ((k + 1 : Nat) : Int) := IntWalk.i64_in _ (by omega)
  obtain ⟨bq, oq, cq, xq, hvq, hcq, hxq, hkq⟩ := hO.rd.at_ (i := k) (by simpa using hlt)
  simp only [List.length_map, List.length_range] at hvq
  subst hvq
  simp only [List.getElem_map, List.getElem_range] at hkq
  obtain ⟨hql, cs0, hQ⟩ := hq k hlt
  have hxt : ¬ (lo ≤ bq ∧ xq.opn = true ∧ xq.ty = 2) := by
    rcases hO with ⟨e, _⟩ | ⟨b', o', pre', e, _, _, h4, _⟩
    · cases e
    · simp only [Value.slice.injEq, Option.some.injEq, Addr.mk.injEq, true_and, and_true] at e
      obtain ⟨⟨rfl, rfl⟩, rfl⟩ := e
      rw [hxq] at h4; cases h4
      simp
  have hxq' := hS.eq _ _ hxq hxt
  simp -implicitDefEqProofs (maxDischargeDepth := 6) (maxSteps := 1000000) only [go_sem, ↓reduceIte, Nat.reduceLT, Nat.reduceLeDiff, Nat.reduceEqDiff, Nat.reduceAdd, Nat.reduceMul, Nat.reduceSub, Nat.reduceBEq, reduceCtorEq, Int.reduceEq, Int.reduceLT, Int.reduceLE, Int.reduceNeg, Int.reduceToNat, g13, g16, hb', goInt, nv, hltZ]
  refine Wk_loopF (fun m g G' => ∃ j, m = q k - j ∧ j ≤ q k ∧ (∀ t, t < 14 → g.get t = f.get t) ∧ g.get 16 = some (nv k) ∧ g.get 17 = some (nv j) ∧ Shp lo 2 G G') (q k) ?_ ?_
  · refine ⟨0, by omega, by omega, fun t ht => ?_, ?_, ?_, hS⟩
    · simp (disch := omega) only [Tr.get_put_ne]
      exact hf t ht
    · simp only [Tr.get_put, Nat.reduceEqDiff, ↓reduceIte, g16, nv]
    · simp only [Tr.get_put, Nat.reduceEqDiff, ↓reduceIte, nv]
      rfl
  clear g13 g16 hb' hf hxq' hS hO'
  rintro m g G' ⟨j, rfl, hj, hf, g16, g17, hS⟩
  have g13 := (hf 13 (by omega)).trans h13
  have hb' := hS.eq _ _ hb (by simp)
  have hxq' := hS.eq _ _ hxq hxt
  obtain ⟨cs', hQ'⟩ := hS.own hQ
  unfold L3_2
  by_cases hjl : j < q k
  case neg =>
    obtain ⟨qa, qc, e1⟩ := hQ'.sl
    rw [e1] at hkq
    have hjZ : ¬ (j : Int) < (q k : Int) := by omega
    simp -implicitDefEqProofs (maxDischargeDepth := 6) (maxSteps := 1000000) only [go_sem, ↓reduceIte, Nat.reduceLT, Nat.reduceLeDiff, Nat.reduceEqDiff, Nat.reduceAdd, Nat.reduceMul, Nat.reduceSub, Nat.reduceBEq, reduceCtorEq, Int.reduceEq, Int.reduceLT, Int.reduceLE, Int.reduceNeg, Int.reduceToNat, g13, g16, g17, hb', goInt, nv, hltZ, hk0, hcq, hxq', hkq, hjZ, hw1]
    refine ⟨n - (k + 1), by omega, k + 1, rfl, by omega, fun t ht => ?_, ?_, hS⟩
    · simp (disch := omega) only [Tr.get_put_ne]
      exact hf t ht
    · simp only [Tr.get_put, Nat.reduceEqDiff, ↓reduceIte, nv]
  rcases hQ' with ⟨e1, e2, _⟩ | ⟨b, o, pre, e1, h2, h3, h4, h5, h6⟩
  · omega
  rw [e1] at hkq
  have hjZ : (j : Int) < (q k : Int) := by omega
  have hj0 : (0 : Int) ≤ (j : Int) := by omega
  have hw2 : IntKind.i64.wrap ((j : Int) + 1) = ((j + 1 : Nat) : Int) := IntWalk.i64_in _ (by omega)
  have hoc : ¬ openCap = 0 := by unfold openCap; omega
  obtain ⟨cs2, hl2, hst⟩ := stoK_n (H := G') (b := b) (o := o + j) (vs := [.int .i64 (-5)]) (x := ⟨2, 1, true, pre ++ cs'⟩) h2 (by simp only [List.length_append, h5, h6, List.length_cons, List.length_nil]; omega) rfl
  have hjl2 : o + j < (pre ++ cs').length := by rw [List.length_append, h5, h6]; omega
  simp -implicitDefEqProofs (maxDischargeDepth := 6) (maxSteps := 1000000) only [go_sem, ↓reduceIte, Nat.reduceLT, Nat.reduceLeDiff, Nat.reduceEqDiff, Nat.reduceAdd, Nat.reduceMul, Nat.reduceSub, Nat.reduceBEq, reduceCtorEq, Int.reduceEq, Int.reduceLT, Int.reduceLE, Int.reduceNeg, Int.reduceToNat, g13, g16, g17, hb', goInt, nv, hltZ, hk0, hcq, hxq', hkq, hjZ, hj0, hoc, h4, hst, hw2]
  refine ⟨q k - (j + 1), by omega, j + 1, rfl, by omega, fun t ht => ?_, ?_, ?_, hS.trans (Shp.set hS.wf h2 h4 h3 rfl rfl hl2)⟩
  · simp (disch := omega) only [Tr.get_put_ne]
    exact hf t ht
  · simp only [Tr.get_put, Nat.reduceEqDiff, ↓reduceIte, g16, nv]
  · simp only [Tr.get_put, Nat.reduceEqDiff, ↓reduceIte, nv]
end Go.Am.T
namespace Go.Am.T
open Go Go.Am Go.Proofs.Ythanhcpnhionaaa Go.Proofs
theorem all_big (old : Nat → Option Blk) {room most : Int} {ta pa : Option Addr} {n tc np pc : Nat} (hn : 40 < n) :
    CW Try.prog 3 #[.slice ta n tc, .int .i64 room, .slice pa np pc, .int .i64 most] ⟨old, .nil, base0⟩ fun x _ => x = .ret (.bool true) := by
  refine CW_k (n := 148) if3 rfl ?_
  unfold C3
  simp -implicitDefEqProofs (maxDischargeDepth := 6) (maxSteps := 1000000) only [go_sem, ↓reduceIte, Nat.reduceLT, Nat.reduceLeDiff, Nat.reduceEqDiff, Nat.reduceAdd, Nat.reduceMul, Nat.reduceSub, Nat.reduceBEq, reduceCtorEq, Int.reduceEq, Int.reduceLT, Int.reduceLE, Int.reduceNeg, Int.reduceToNat, ]
  refine CW_mono _ (begun_law old) ?_
  rintro _ H0 ⟨rfl, hE0⟩
  have c1Z : (40 : Int) < (n : Int) := by omega
  simp -implicitDefEqProofs (maxDischargeDepth := 6) (maxSteps := 1000000) only [go_sem, ↓reduceIte, Nat.reduceLT, Nat.reduceLeDiff, Nat.reduceEqDiff, Nat.reduceAdd, Nat.reduceMul, Nat.reduceSub, Nat.reduceBEq, reduceCtorEq, Int.reduceEq, Int.reduceLT, Int.reduceLE, Int.reduceNeg, Int.reduceToNat, c1Z, goInt]
theorem TasksAt.ofk {H H' : Heap} {tv : Value} {ts : List (List Act)} {av : Nat → Value} (h : TasksAt H tv ts av) (k : ∀ b x, H.get b = some x → H'.get b = some x) : TasksAt H' tv ts av :=
  ⟨h.rd.of k, fun i hi => (h.acts i hi).of k⟩
structure AllIn (H : Heap) (tv pv hv : Value) (qb lo : Nat) (ts : List (List Act)) (av av' : Nat → Value) (picks : List Int) (o : Out5) : Prop where
  t : TasksAt H tv ts av
  h : TasksAt H hv ts av'
  p : RdI H pv (picks.map iv)
  hr : RdI H hv ((List.range ts.length).map av')
  tw : ∀ i (h : i < ts.length), ∃ H0, TwAt H0 H (av' i) ts[i]
  q : ∃ trv rgv ev qsv qv, H.get qb = some ⟨33, 0, false, [.int .i64 o.st, trv, rgv, ev, qsv]⟩ ∧ RanO lo H o trv rgv ev qsv qv
theorem AllIn.of {H H' : Heap} {tv pv hv : Value} {qb lo : Nat} {ts : List (List Act)} {av av' : Nat → Value} {picks : List Int} {o : Out5} (h : AllIn H tv pv hv qb lo ts av av' picks o) (k : ∀ b x, H.get b = some x → H'.get b = some x) : AllIn H' tv pv hv qb lo ts av av' picks o := by
  refine ⟨h.t.ofk k, h.h.ofk k, h.p.of k, h.hr.of k, fun i hi => ?_, ?_⟩
  · obtain ⟨H0, hT⟩ := h.tw i hi
    exact ⟨H0, hT.of fun b x hb _ _ => k b x hb⟩
  · obtain ⟨trv, rgv, ev, qsv, qv, h1, h2⟩ := h.q
    have fr : ∀ {es ty n : Nat} {v : Value} {cs : List Value}, OwnL (fun b => lo ≤ b) H es ty v n cs → OwnL (fun b => lo ≤ b) H' es ty v n cs := fun ho => ho.frame fun b x hb hg => ⟨hb, k b x hg⟩
    exact ⟨trv, rgv, ev, qsv, qv, k _ _ h1, fr h2.tr_, fr h2.rg_, fr h2.en_, fr h2.qs_, fun j hj => fr (h2.q_ j hj)⟩
theorem all_law (old : Nat → Option Blk) {room most : Int} {tv pv : Value} {ts : List (List Act)} {av : Nat → Value} {picks : List Int} (hw0 : WF ⟨old, .nil, base0⟩) (ht : TasksAt ⟨old, .nil, base0⟩ tv ts av) (hl : ∀ l ∈ ts, l.length ≤ 1048576) (hp : RdI ⟨old, .nil, base0⟩ pv (picks.map iv)) :
    CW Try.prog 3 #[tv, .int .i64 room, pv, .int .i64 most] ⟨old, .nil, base0⟩ fun x _ => x = .ret (.bool true) := by
  refine CW_k (n := 148) if3 rfl ?_
  unfold C3
  obtain ⟨ta, tc, htv⟩ : ∃ a c, tv = .slice a ts.length c := by
    obtain ⟨⟨a, c, e, _⟩, _⟩ := ht
    exact ⟨a, c, by simpa using e⟩
  obtain ⟨pa, pc, hpv⟩ : ∃ a c, pv = .slice a picks.length c := by
    obtain ⟨a, c, e, _⟩ := hp
    exact ⟨a, c, by simpa using e⟩
  subst htv hpv
  simp -implicitDefEqProofs (maxDischargeDepth := 6) (maxSteps := 1000000) only [go_sem, ↓reduceIte, Nat.reduceLT, Nat.reduceLeDiff, Nat.reduceEqDiff, Nat.reduceAdd, Nat.reduceMul, Nat.reduceSub, Nat.reduceBEq, reduceCtorEq, Int.reduceEq, Int.reduceLT, Int.reduceLE, Int.reduceNeg, Int.reduceToNat, ]
  refine CW_mono _ (begun_law old) ?_
  rintro _ H0 ⟨rfl, hE0⟩
  by_cases c1 : 40 < ts.length
  · have c1Z : (40 : Int) < (ts.length : Int) := by omega
    simp -implicitDefEqProofs (maxDischargeDepth := 6) (maxSteps := 1000000) only [go_sem, ↓reduceIte, Nat.reduceLT, Nat.reduceLeDiff, Nat.reduceEqDiff, Nat.reduceAdd, Nat.reduceMul, Nat.reduceSub, Nat.reduceBEq, reduceCtorEq, Int.reduceEq, Int.reduceLT, Int.reduceLE, Int.reduceNeg, Int.reduceToNat, c1Z, goInt]
  have c1Z : ¬ (40 : Int) < (ts.length : Int) := by omega
  by_cases c2 : 3000 < picks.length
  · have c2Z : (3000 : Int) < (picks.length : Int) := by omega
    simp -implicitDefEqProofs (maxDischargeDepth := 6) (maxSteps := 1000000) only [go_sem, ↓reduceIte, Nat.reduceLT, Nat.reduceLeDiff, Nat.reduceEqDiff, Nat.reduceAdd, Nat.reduceMul, Nat.reduceSub, Nat.reduceBEq, reduceCtorEq, Int.reduceEq, Int.reduceLT, Int.reduceLE, Int.reduceNeg, Int.reduceToNat, c1Z, c2Z, goInt]
  have c2Z : ¬ (3000 : Int) < (picks.length : Int) := by omega
  have hw1 := hE0.wf
  have ht1 := ht.of hw0 hE0
  have hp1 := hp.of fun b x hb => hE0.of hw0 hb
  simp -implicitDefEqProofs (maxDischargeDepth := 6) (maxSteps := 1000000) only [go_sem, ↓reduceIte, Nat.reduceLT, Nat.reduceLeDiff, Nat.reduceEqDiff, Nat.reduceAdd, Nat.reduceMul, Nat.reduceSub, Nat.reduceBEq, reduceCtorEq, Int.reduceEq, Int.reduceLT, Int.reduceLE, Int.reduceNeg, Int.reduceToNat, c1Z, c2Z, goInt]
  refine CW_mono _ (twin_W hw1 ht1 (by omega) hl) ?_
  rintro _ H1 ⟨hv, av', rfl, hT⟩
  have hh : TasksAt H1 hv ts av' := ⟨hT.out.rd, fun i hi => (hT.tw i hi hi).acts⟩
  simp -implicitDefEqProofs (maxDischargeDepth := 6) (maxSteps := 1000000) only [go_sem, ↓reduceIte, Nat.reduceLT, Nat.reduceLeDiff, Nat.reduceEqDiff, Nat.reduceAdd, Nat.reduceMul, Nat.reduceSub, Nat.reduceBEq, reduceCtorEq, Int.reduceEq, Int.reduceLT, Int.reduceLE, Int.reduceNeg, Int.reduceToNat, ]
  refine CW_mono _ (may_W hT.ext.wf hh (by omega)) ?_
  rintro _ H2 ⟨rfl, hE2⟩
  simp -implicitDefEqProofs (maxDischargeDepth := 6) (maxSteps := 1000000) only [go_sem, ↓reduceIte, Nat.reduceLT, Nat.reduceLeDiff, Nat.reduceEqDiff, Nat.reduceAdd, Nat.reduceMul, Nat.reduceSub, Nat.reduceBEq, reduceCtorEq, Int.reduceEq, Int.reduceLT, Int.reduceLE, Int.reduceNeg, Int.reduceToNat, ]
  refine CW_mono _ (rmay_W hE2.wf ((ht1.of hw1 hT.ext).of hT.ext.wf hE2) (by omega)) ?_
  rintro _ H3 ⟨rfl, hE3⟩
  simp -implicitDefEqProofs (maxDischargeDepth := 6) (maxSteps := 1000000) only [go_sem, ↓reduceIte, Nat.reduceLT, Nat.reduceLeDiff, Nat.reduceEqDiff, Nat.reduceAdd, Nat.reduceMul, Nat.reduceSub, Nat.reduceBEq, reduceCtorEq, Int.reduceEq, Int.reduceLT, Int.reduceLE, Int.reduceNeg, Int.reduceToNat, ]
  refine CW_mono _ few_W ?_
  rintro _ _ ⟨rfl, rfl⟩
  generalize hfm : (if 3000 < most ∧ most ≤ 65536 then 3000 else most) = fm
  have hE13 := hE2.trans hE3
  have hp3 : RdI H3 (.slice pa picks.length pc) (picks.map iv) := (hp1.of fun b x hb => hT.ext.of hw1 hb).of fun b x hb => hE13.of hT.ext.wf hb
  have ht3 : TasksAt H3 (.slice ta ts.length tc) ts av := (ht1.of hw1 hT.ext).of hT.ext.wf hE13
  simp -implicitDefEqProofs (maxDischargeDepth := 6) (maxSteps := 1000000) only [go_sem, ↓reduceIte, Nat.reduceLT, Nat.reduceLeDiff, Nat.reduceEqDiff, Nat.reduceAdd, Nat.reduceMul, Nat.reduceSub, Nat.reduceBEq, reduceCtorEq, Int.reduceEq, Int.reduceLT, Int.reduceLE, Int.reduceNeg, Int.reduceToNat, ]
  refine CW_mono _ (rRun_W hE3.wf ht3 (by omega) (room := room) (most := fm) hp3) ?_
  intro x H4 hR
  obtain ⟨hK4, hR1, hR2⟩ := hR
  obtain ⟨trv, rgv, ev, qsv, qv, rfl, hO4⟩ := runO_of hR1 hR2
  have hnb4 := hK4.wf.1
  obtain ⟨g1, g2, rfl⟩ := hO4.tr_.sl
  obtain ⟨g3, g4, rfl⟩ := hO4.rg_.sl
  obtain ⟨g5, g6, rfl⟩ := hO4.en_.sl
  obtain ⟨g7, g8, rfl⟩ := hO4.qs_.sl
  simp -implicitDefEqProofs (maxDischargeDepth := 6) (maxSteps := 1000000) only [go_sem, ↓reduceIte, Nat.reduceLT, Nat.reduceLeDiff, Nat.reduceEqDiff, Nat.reduceAdd, Nat.reduceMul, Nat.reduceSub, Nat.reduceBEq, reduceCtorEq, Int.reduceEq, Int.reduceLT, Int.reduceLE, Int.reduceNeg, Int.reduceToNat, hnb4, goInt]
  have hS5 := small5 (ts := ts) (room := room) (most := fm) (picks := picks)
  generalize hO : out5 ts room picks fm = O at *
  have hEq := ((Ext.refl hK4.wf).alloc (⟨33, 0, false, [.int .i64 0, .slice none 0 0, .slice none 0 0, .slice none 0 0, .slice none 0 0]⟩ : Blk)).set (b := H4.next) (Nat.le_refl _) (by simp only [next_alloc]; omega) (⟨33, 0, false, [.int .i64 O.st, .slice g1 O.tr.length g2, .slice g3 O.rg.length g4, .slice g5 O.en.length g6, .slice g7 O.qs.length g8]⟩ : Blk)
  have k4q : ∀ b x, H4.get b = some x → ((H4.alloc (⟨33, 0, false, [.int .i64 0, .slice none 0 0, .slice none 0 0, .slice none 0 0, .slice none 0 0]⟩ : Blk)).set H4.next (⟨33, 0, false, [.int .i64 O.st, .slice g1 O.tr.length g2, .slice g3 O.rg.length g4, .slice g5 O.en.length g6, .slice g7 O.qs.length g8]⟩ : Blk)).get b = some x := fun b x hb => hEq.of hK4.wf hb
  have k3q := fun b x (hb : H3.get b = some x) => k4q b x (hK4.of b x hb)
  have k1q := fun b x (hb : H1.get b = some x) => k3q b x (hE13.of hT.ext.wf hb)
  have hIn : AllIn ((H4.alloc (⟨33, 0, false, [.int .i64 0, .slice none 0 0, .slice none 0 0, .slice none 0 0, .slice none 0 0]⟩ : Blk)).set H4.next (⟨33, 0, false, [.int .i64 O.st, .slice g1 O.tr.length g2, .slice g3 O.rg.length g4, .slice g5 O.en.length g6, .slice g7 O.qs.length g8]⟩ : Blk)) (.slice ta ts.length tc) (.slice pa picks.length pc) hv H4.next H3.next ts av av' picks O := by
    have fr : ∀ {es ty n : Nat} {v : Value} {cs : List Value}, OwnL (fun b => H3.next ≤ b) H4 es ty v n cs → OwnL (fun b => H3.next ≤ b) ((H4.alloc (⟨33, 0, false, [.int .i64 0, .slice none 0 0, .slice none 0 0, .slice none 0 0, .slice none 0 0]⟩ : Blk)).set H4.next (⟨33, 0, false, [.int .i64 O.st, .slice g1 O.tr.length g2, .slice g3 O.rg.length g4, .slice g5 O.en.length g6, .slice g7 O.qs.length g8]⟩ : Blk)) es ty v n cs :=
      fun ho => ho.frame fun b x hb hg => ⟨hb, k4q b x hg⟩
    exact ⟨ht3.ofk k3q, hh.ofk k1q, hp3.of k3q, hT.out.rd.of k1q, fun i hi => ⟨_, (hT.tw i hi hi).of fun b x hb _ _ => k1q b x hb⟩, _, _, _, _, qv, get_set_eq hnb4, fr hO4.tr_, fr hO4.rg_, fr hO4.en_, fr hO4.qs_, fun j hj => fr (hO4.q_ j hj)⟩
  have hwq := hEq.wf
  generalize hqb : H4.next = qb at *
  refine Wk_loopF (fun m f G => ∃ k, m = 2 - k ∧ k ≤ 2 ∧ f.get 0 = some (.slice ta ts.length tc) ∧ f.get 1 = some (.int .i64 room) ∧ f.get 2 = some (.slice pa picks.length pc) ∧ f.get 3 = some (.int .i64 most) ∧ f.get 9 = some hv ∧ f.get 10 = some (.pointer (some ⟨qb, 0, none⟩)) ∧
    f.get 11 = some (.int .i64 (askedP ts room picks fm)) ∧ f.get 12 = some (nv k) ∧ WF G ∧ AllIn G (.slice ta ts.length tc) (.slice pa picks.length pc) hv qb H3.next ts av av' picks O) 2 ?_ ?_
  · refine ⟨0, by omega, by omega, ?_, ?_, ?_, ?_, ?_, ?_, ?_, ?_, hwq, hIn⟩
    all_goals simp -implicitDefEqProofs (maxDischargeDepth := 6) (maxSteps := 1000000) only [go_sem, ↓reduceIte, Nat.reduceLT, Nat.reduceLeDiff, Nat.reduceEqDiff, Nat.reduceAdd, Nat.reduceMul, Nat.reduceSub, Nat.reduceBEq, reduceCtorEq, Int.reduceEq, Int.reduceLT, Int.reduceLE, Int.reduceNeg, Int.reduceToNat, nv]
    rfl
  clear hIn hwq hEq k4q k3q k1q hqb hnb4 hO4 hK4 hR1 hR2
  rintro m f G ⟨k, rfl, hk, f0, f1, f2, f3, f9, f10, f11, f12, hwG, hI⟩
  unfold L3_4
  by_cases hlt : k < 2
  · have hltZ : (k : Int) < 2 := by omega
    have hw2 : IntKind.i64.wrap ((k : Int) + 1) = ((k + 1 : Nat) : Int) := IntWalk.i64_in _ (by omega)
    simp -implicitDefEqProofs (maxDischargeDepth := 6) (maxSteps := 1000000) only [go_sem, ↓reduceIte, Nat.reduceLT, Nat.reduceLeDiff, Nat.reduceEqDiff, Nat.reduceAdd, Nat.reduceMul, Nat.reduceSub, Nat.reduceBEq, reduceCtorEq, Int.reduceEq, Int.reduceLT, Int.reduceLE, Int.reduceNeg, Int.reduceToNat, f0, f1, f2, f3, f9, f10, f11, f12, nv, hltZ]
    refine CW_mono _ few_W ?_
    rintro _ _ ⟨rfl, rfl⟩
    rw [hfm]
    simp -implicitDefEqProofs (maxDischargeDepth := 6) (maxSteps := 1000000) only [go_sem, ↓reduceIte, Nat.reduceLT, Nat.reduceLeDiff, Nat.reduceEqDiff, Nat.reduceAdd, Nat.reduceMul, Nat.reduceSub, Nat.reduceBEq, reduceCtorEq, Int.reduceEq, Int.reduceLT, Int.reduceLE, Int.reduceNeg, Int.reduceToNat, ]
    refine CW_mono _ (Run_W hwG hI.h (by omega) (room := room) (most := fm) hI.p) ?_
    intro x G1 hR
    obtain ⟨hE1, hR1, hR2⟩ := hR
    obtain ⟨trv, rgv, ev, qsv, qw, rfl, hO1⟩ := runO_of hR1 hR2
    rw [hO] at hO1 ⊢
    obtain ⟨a1, a2, rfl⟩ := hO1.tr_.sl
    obtain ⟨a3, a4, rfl⟩ := hO1.rg_.sl
    obtain ⟨a5, a6, rfl⟩ := hO1.en_.sl
    obtain ⟨a7, a8, rfl⟩ := hO1.qs_.sl
    have hnb1 := hE1.wf.1
    obtain ⟨btr, brg, bev, bqs, bqv, hcq, hOq⟩ := hI.q
    have hcq1 := hE1.of hwG hcq
    have hql := hE1.wf.lt hcq1
    simp -implicitDefEqProofs (maxDischargeDepth := 6) (maxSteps := 1000000) only [go_sem, ↓reduceIte, Nat.reduceLT, Nat.reduceLeDiff, Nat.reduceEqDiff, Nat.reduceAdd, Nat.reduceMul, Nat.reduceSub, Nat.reduceBEq, reduceCtorEq, Int.reduceEq, Int.reduceLT, Int.reduceLE, Int.reduceNeg, Int.reduceToNat, f10, f11, hnb1, hcq1, hql, loads_eq, goInt]
    have hE2 := ((Ext.refl hE1.wf).alloc (⟨33, 0, false, [.int .i64 0, .slice none 0 0, .slice none 0 0, .slice none 0 0, .slice none 0 0]⟩ : Blk)).set (b := G1.next) (Nat.le_refl _) (by simp only [next_alloc]; omega) (⟨33, 0, false, [.int .i64 O.st, .slice a1 O.tr.length a2, .slice a3 O.rg.length a4, .slice a5 O.en.length a6, .slice a7 O.qs.length a8]⟩ : Blk)
    have hrb := get_set_eq (H := G1.alloc (⟨33, 0, false, [.int .i64 0, .slice none 0 0, .slice none 0 0, .slice none 0 0, .slice none 0 0]⟩ : Blk)) (x := (⟨33, 0, false, [.int .i64 O.st, .slice a1 O.tr.length a2, .slice a3 O.rg.length a4, .slice a5 O.en.length a6, .slice a7 O.qs.length a8]⟩ : Blk)) hnb1
    have hE02 := hE1.trans hE2
    have hk2 := fun b x hb => hE2.of hE1.wf (b := b) (x := x) hb
    refine CW_mono _ (Eq_W hE2.wf (hO1.view.of hk2) (hOq.view.of fun b x hb => hE02.of hwG hb) hS5.l1 hS5.l2 hS5.l3 hS5.l4 hS5.l5) ?_
    rintro _ G3 ⟨rfl, hE3⟩
    have hE03 := hE02.trans hE3
    have hE13 := hE2.trans hE3
    have hrb3 := hE3.of hE2.wf hrb
    have hT3 := hO1.tr_.frame (p' := fun b => G.next ≤ b) fun b x hb hg => ⟨hb, hE13.of hE1.wf hg⟩
    have hQ3 := hO1.qs_.frame (p' := fun b => G.next ≤ b) fun b x hb hg => ⟨hb, hE13.of hE1.wf hg⟩
    have hq3 := fun j hj => (hO1.q_ j hj).frame (p' := fun b => G.next ≤ b) fun b x hb hg => ⟨hb, hE13.of hE1.wf hg⟩
    generalize hrn : G1.next = rb at *
    simp -implicitDefEqProofs (maxDischargeDepth := 6) (maxSteps := 1000000) only [go_sem, ↓reduceIte, Nat.reduceLT, Nat.reduceLeDiff, Nat.reduceEqDiff, Nat.reduceAdd, Nat.reduceMul, Nat.reduceSub, Nat.reduceBEq, reduceCtorEq, Int.reduceEq, Int.reduceLT, Int.reduceLE, Int.reduceNeg, Int.reduceToNat, ]
    rw [← Wk_block]
    refine Wk_cut _ (wr1 (lo := G.next) (rb := rb) hE03.wf hrb3 hT3 hS5.l1 ?_ ?_) ?_
    · simp -implicitDefEqProofs (maxDischargeDepth := 6) (maxSteps := 1000000) only [go_sem, ↓reduceIte, Nat.reduceLT, Nat.reduceLeDiff, Nat.reduceEqDiff, Nat.reduceAdd, Nat.reduceMul, Nat.reduceSub, Nat.reduceBEq, reduceCtorEq, Int.reduceEq, Int.reduceLT, Int.reduceLE, Int.reduceNeg, Int.reduceToNat, ]
    · simp only [Tr.get_put, Nat.reduceEqDiff, ↓reduceIte, nv]
      rfl
    rintro ⟨n', g, dd, G4⟩ ⟨e1, e2, kf, hS4⟩
    dsimp only at e1 e2 kf hS4
    subst e1 e2
    have hS5' := hS5
    have g0 : g.get 0 = some (.slice ta ts.length tc) := (kf 0 (by omega)).trans (by simp -implicitDefEqProofs (maxDischargeDepth := 6) (maxSteps := 1000000) only [go_sem, ↓reduceIte, Nat.reduceLT, Nat.reduceLeDiff, Nat.reduceEqDiff, Nat.reduceAdd, Nat.reduceMul, Nat.reduceSub, Nat.reduceBEq, reduceCtorEq, Int.reduceEq, Int.reduceLT, Int.reduceLE, Int.reduceNeg, Int.reduceToNat, f0])
    have g1' : g.get 1 = some (.int .i64 room) := (kf 1 (by omega)).trans (by simp -implicitDefEqProofs (maxDischargeDepth := 6) (maxSteps := 1000000) only [go_sem, ↓reduceIte, Nat.reduceLT, Nat.reduceLeDiff, Nat.reduceEqDiff, Nat.reduceAdd, Nat.reduceMul, Nat.reduceSub, Nat.reduceBEq, reduceCtorEq, Int.reduceEq, Int.reduceLT, Int.reduceLE, Int.reduceNeg, Int.reduceToNat, f1])
    have g2' : g.get 2 = some (.slice pa picks.length pc) := (kf 2 (by omega)).trans (by simp -implicitDefEqProofs (maxDischargeDepth := 6) (maxSteps := 1000000) only [go_sem, ↓reduceIte, Nat.reduceLT, Nat.reduceLeDiff, Nat.reduceEqDiff, Nat.reduceAdd, Nat.reduceMul, Nat.reduceSub, Nat.reduceBEq, reduceCtorEq, Int.reduceEq, Int.reduceLT, Int.reduceLE, Int.reduceNeg, Int.reduceToNat, f2])
    have g3' : g.get 3 = some (.int .i64 most) := (kf 3 (by omega)).trans (by simp -implicitDefEqProofs (maxDischargeDepth := 6) (maxSteps := 1000000) only [go_sem, ↓reduceIte, Nat.reduceLT, Nat.reduceLeDiff, Nat.reduceEqDiff, Nat.reduceAdd, Nat.reduceMul, Nat.reduceSub, Nat.reduceBEq, reduceCtorEq, Int.reduceEq, Int.reduceLT, Int.reduceLE, Int.reduceNeg, Int.reduceToNat, f3])
    have g9 : g.get 9 = some hv := (kf 9 (by omega)).trans (by simp -implicitDefEqProofs (maxDischargeDepth := 6) (maxSteps := 1000000) only [go_sem, ↓reduceIte, Nat.reduceLT, Nat.reduceLeDiff, Nat.reduceEqDiff, Nat.reduceAdd, Nat.reduceMul, Nat.reduceSub, Nat.reduceBEq, reduceCtorEq, Int.reduceEq, Int.reduceLT, Int.reduceLE, Int.reduceNeg, Int.reduceToNat, f9])
    have g10 : g.get 10 = some (.pointer (some ⟨qb, 0, none⟩)) := (kf 10 (by omega)).trans (by simp -implicitDefEqProofs (maxDischargeDepth := 6) (maxSteps := 1000000) only [go_sem, ↓reduceIte, Nat.reduceLT, Nat.reduceLeDiff, Nat.reduceEqDiff, Nat.reduceAdd, Nat.reduceMul, Nat.reduceSub, Nat.reduceBEq, reduceCtorEq, Int.reduceEq, Int.reduceLT, Int.reduceLE, Int.reduceNeg, Int.reduceToNat, f10])
    have g11 : g.get 11 = some (.int .i64 (askedP ts room picks fm)) := (kf 11 (by omega)).trans (by simp -implicitDefEqProofs (maxDischargeDepth := 6) (maxSteps := 1000000) only [go_sem, ↓reduceIte, Nat.reduceLT, Nat.reduceLeDiff, Nat.reduceEqDiff, Nat.reduceAdd, Nat.reduceMul, Nat.reduceSub, Nat.reduceBEq, reduceCtorEq, Int.reduceEq, Int.reduceLT, Int.reduceLE, Int.reduceNeg, Int.reduceToNat, f11])
    have g12 : g.get 12 = some (nv k) := (kf 12 (by omega)).trans (by simp -implicitDefEqProofs (maxDischargeDepth := 6) (maxSteps := 1000000) only [go_sem, ↓reduceIte, Nat.reduceLT, Nat.reduceLeDiff, Nat.reduceEqDiff, Nat.reduceAdd, Nat.reduceMul, Nat.reduceSub, Nat.reduceBEq, reduceCtorEq, Int.reduceEq, Int.reduceLT, Int.reduceLE, Int.reduceNeg, Int.reduceToNat, f12])
    have g13 : g.get 13 = some (.pointer (some ⟨rb, 0, none⟩)) := (kf 13 (by omega)).trans (by simp -implicitDefEqProofs (maxDischargeDepth := 6) (maxSteps := 1000000) only [go_sem, ↓reduceIte, Nat.reduceLT, Nat.reduceLeDiff, Nat.reduceEqDiff, Nat.reduceAdd, Nat.reduceMul, Nat.reduceSub, Nat.reduceBEq, reduceCtorEq, Int.reduceEq, Int.reduceLT, Int.reduceLE, Int.reduceNeg, Int.reduceToNat, ])
    clear kf f0 f1 f2 f3 f9 f10 f11 f12
    simp -implicitDefEqProofs (maxDischargeDepth := 6) (maxSteps := 1000000) only [go_sem, ↓reduceIte, Nat.reduceLT, Nat.reduceLeDiff, Nat.reduceEqDiff, Nat.reduceAdd, Nat.reduceMul, Nat.reduceSub, Nat.reduceBEq, reduceCtorEq, Int.reduceEq, Int.reduceLT, Int.reduceLE, Int.reduceNeg, Int.reduceToNat, ]
    rw [← Wk_block]
    refine Wk_cut _ (wr2 (lo := G.next) (rb := rb) (q := fun j => if h : j < O.qs.length then (O.qs[j]).length else 0) hS4.wf (hS4.eq _ _ hrb3 (by simp)) (hS4.ownE (by omega) hQ3) hS5.l4 ?_ ?_ ?_) ?_
    · intro j hj
      simp only [hj, dif_pos]
      exact ⟨hS5.l5 _ (List.getElem_mem hj), _, hS4.ownE (by omega) (hq3 j hj)⟩
    · simp only [Tr.get_put, Nat.reduceEqDiff, ↓reduceIte, g13]
    · simp only [Tr.get_put, Nat.reduceEqDiff, ↓reduceIte, nv]
      rfl
    rintro ⟨n', g', dd, G5⟩ ⟨e1, e2, kf, hS5⟩
    dsimp only at e1 e2 kf hS5
    subst e1 e2
    have f0 : g'.get 0 = some (.slice ta ts.length tc) := (kf 0 (by omega)).trans (by simp -implicitDefEqProofs (maxDischargeDepth := 6) (maxSteps := 1000000) only [go_sem, ↓reduceIte, Nat.reduceLT, Nat.reduceLeDiff, Nat.reduceEqDiff, Nat.reduceAdd, Nat.reduceMul, Nat.reduceSub, Nat.reduceBEq, reduceCtorEq, Int.reduceEq, Int.reduceLT, Int.reduceLE, Int.reduceNeg, Int.reduceToNat, g0])
    have f1 : g'.get 1 = some (.int .i64 room) := (kf 1 (by omega)).trans (by simp -implicitDefEqProofs (maxDischargeDepth := 6) (maxSteps := 1000000) only [go_sem, ↓reduceIte, Nat.reduceLT, Nat.reduceLeDiff, Nat.reduceEqDiff, Nat.reduceAdd, Nat.reduceMul, Nat.reduceSub, Nat.reduceBEq, reduceCtorEq, Int.reduceEq, Int.reduceLT, Int.reduceLE, Int.reduceNeg, Int.reduceToNat, g1'])
    have f2 : g'.get 2 = some (.slice pa picks.length pc) := (kf 2 (by omega)).trans (by simp -implicitDefEqProofs (maxDischargeDepth := 6) (maxSteps := 1000000) only [go_sem, ↓reduceIte, Nat.reduceLT, Nat.reduceLeDiff, Nat.reduceEqDiff, Nat.reduceAdd, Nat.reduceMul, Nat.reduceSub, Nat.reduceBEq, reduceCtorEq, Int.reduceEq, Int.reduceLT, Int.reduceLE, Int.reduceNeg, Int.reduceToNat, g2'])
    have f3 : g'.get 3 = some (.int .i64 most) := (kf 3 (by omega)).trans (by simp -implicitDefEqProofs (maxDischargeDepth := 6) (maxSteps := 1000000) only [go_sem, ↓reduceIte, Nat.reduceLT, Nat.reduceLeDiff, Nat.reduceEqDiff, Nat.reduceAdd, Nat.reduceMul, Nat.reduceSub, Nat.reduceBEq, reduceCtorEq, Int.reduceEq, Int.reduceLT, Int.reduceLE, Int.reduceNeg, Int.reduceToNat, g3'])
    have f9 : g'.get 9 = some hv := (kf 9 (by omega)).trans (by simp -implicitDefEqProofs (maxDischargeDepth := 6) (maxSteps := 1000000) only [go_sem, ↓reduceIte, Nat.reduceLT, Nat.reduceLeDiff, Nat.reduceEqDiff, Nat.reduceAdd, Nat.reduceMul, Nat.reduceSub, Nat.reduceBEq, reduceCtorEq, Int.reduceEq, Int.reduceLT, Int.reduceLE, Int.reduceNeg, Int.reduceToNat, g9])
    have f10 : g'.get 10 = some (.pointer (some ⟨qb, 0, none⟩)) := (kf 10 (by omega)).trans (by simp -implicitDefEqProofs (maxDischargeDepth := 6) (maxSteps := 1000000) only [go_sem, ↓reduceIte, Nat.reduceLT, Nat.reduceLeDiff, Nat.reduceEqDiff, Nat.reduceAdd, Nat.reduceMul, Nat.reduceSub, Nat.reduceBEq, reduceCtorEq, Int.reduceEq, Int.reduceLT, Int.reduceLE, Int.reduceNeg, Int.reduceToNat, g10])
    have f11 : g'.get 11 = some (.int .i64 (askedP ts room picks fm)) := (kf 11 (by omega)).trans (by simp -implicitDefEqProofs (maxDischargeDepth := 6) (maxSteps := 1000000) only [go_sem, ↓reduceIte, Nat.reduceLT, Nat.reduceLeDiff, Nat.reduceEqDiff, Nat.reduceAdd, Nat.reduceMul, Nat.reduceSub, Nat.reduceBEq, reduceCtorEq, Int.reduceEq, Int.reduceLT, Int.reduceLE, Int.reduceNeg, Int.reduceToNat, g11])
    have f12 : g'.get 12 = some (nv k) := (kf 12 (by omega)).trans (by simp -implicitDefEqProofs (maxDischargeDepth := 6) (maxSteps := 1000000) only [go_sem, ↓reduceIte, Nat.reduceLT, Nat.reduceLeDiff, Nat.reduceEqDiff, Nat.reduceAdd, Nat.reduceMul, Nat.reduceSub, Nat.reduceBEq, reduceCtorEq, Int.reduceEq, Int.reduceLT, Int.reduceLE, Int.reduceNeg, Int.reduceToNat, g12])
    simp -implicitDefEqProofs (maxDischargeDepth := 6) (maxSteps := 1000000) only [go_sem, ↓reduceIte, Nat.reduceLT, Nat.reduceLeDiff, Nat.reduceEqDiff, Nat.reduceAdd, Nat.reduceMul, Nat.reduceSub, Nat.reduceBEq, reduceCtorEq, Int.reduceEq, Int.reduceLT, Int.reduceLE, Int.reduceNeg, Int.reduceToNat, f12, nv, hw2]
    have kp : ∀ b x, G.get b = some x → G5.get b = some x := by
      intro b x hb
      have hlt := hwG.lt hb
      have n1 : ∀ t, ¬ (G.next ≤ b ∧ x.opn = true ∧ x.ty = t) := fun t h => by omega
      exact hS5.eq _ _ (hS4.eq _ _ (hE03.of hwG hb) (n1 _)) (n1 _)
    refine ⟨2 - (k + 1), by omega, k + 1, rfl, by omega, ?_, ?_, ?_, ?_, ?_, ?_, ?_, ?_, hS5.wf, hI.of kp⟩
    · simp only [Tr.get_put, Nat.reduceEqDiff, ↓reduceIte, f0]
    · simp only [Tr.get_put, Nat.reduceEqDiff, ↓reduceIte, f1]
    · simp only [Tr.get_put, Nat.reduceEqDiff, ↓reduceIte, f2]
    · simp only [Tr.get_put, Nat.reduceEqDiff, ↓reduceIte, f3]
    · simp only [Tr.get_put, Nat.reduceEqDiff, ↓reduceIte, f9]
    · simp only [Tr.get_put, Nat.reduceEqDiff, ↓reduceIte, f10]
    · simp only [Tr.get_put, Nat.reduceEqDiff, ↓reduceIte, f11]
    · simp only [Tr.get_put, Nat.reduceEqDiff, ↓reduceIte, nv]
  · have hltZ : ¬ (k : Int) < 2 := by omega
    simp -implicitDefEqProofs (maxDischargeDepth := 6) (maxSteps := 1000000) only [go_sem, ↓reduceIte, Nat.reduceLT, Nat.reduceLeDiff, Nat.reduceEqDiff, Nat.reduceAdd, Nat.reduceMul, Nat.reduceSub, Nat.reduceBEq, reduceCtorEq, Int.reduceEq, Int.reduceLT, Int.reduceLE, Int.reduceNeg, Int.reduceToNat, f0, f1, f2, f3, f9, f10, f11, f12, nv, hltZ]
    refine CW_mono _ (Ready_W hwG hI.h (by omega) (room := room) hI.p) ?_
    rintro x G1 ⟨hE1, v, rfl, hv0, hv1⟩
    have hI1 := hI.of fun b x hb => hE1.of hwG hb
    simp -implicitDefEqProofs (maxDischargeDepth := 6) (maxSteps := 1000000) only [go_sem, ↓reduceIte, Nat.reduceLT, Nat.reduceLeDiff, Nat.reduceEqDiff, Nat.reduceAdd, Nat.reduceMul, Nat.reduceSub, Nat.reduceBEq, reduceCtorEq, Int.reduceEq, Int.reduceLT, Int.reduceLE, Int.reduceNeg, Int.reduceToNat, f0, f1, f2, f9]
    refine CW_mono _ (rReady_W hE1.wf hI1.t (by omega) (room := room) hI1.p) ?_
    rintro x G2 ⟨hK2, w, rfl, hw0, hw1⟩
    have hI2 := hI1.of hK2.of
    obtain ⟨l, hvl, hwl, hll⟩ : ∃ l : List Nat, RdI G2 v (l.map nv) ∧ RdI G2 w (l.map nv) ∧ l.length ≤ 1000000 := by
      by_cases h0 : askedP ts room picks 0 = 0
      · refine ⟨_, (hv1 h0).rd.of hK2.of, (hw1 h0).rd, ?_⟩
        have hf := asked_ok h0
        have ok := okR_run picks.length picks hf.okR
        have := rlen_le (runM picks.length (S0 ts room) picks)
        have := ok.N
        omega
      · rw [hv0 h0, hw0 h0]
        exact ⟨[], ⟨none, 0, rfl, fun h => absurd rfl h⟩, ⟨none, 0, rfl, fun h => absurd rfl h⟩, by simp⟩
    obtain ⟨va, vc, hvv, _⟩ := id hvl
    obtain ⟨wa, wc, hww, _⟩ := id hwl
    simp only [List.length_map] at hvv hww
    subst hvv hww
    simp -implicitDefEqProofs (maxDischargeDepth := 6) (maxSteps := 1000000) only [go_sem, ↓reduceIte, Nat.reduceLT, Nat.reduceLeDiff, Nat.reduceEqDiff, Nat.reduceAdd, Nat.reduceMul, Nat.reduceSub, Nat.reduceBEq, reduceCtorEq, Int.reduceEq, Int.reduceLT, Int.reduceLE, Int.reduceNeg, Int.reduceToNat, goInt]
    refine Wk_loopF (fun m f G => ∃ j, m = l.length - j ∧ j ≤ l.length ∧ f.get 0 = some (.slice ta ts.length tc) ∧ f.get 9 = some hv ∧ f.get 18 = some (.slice va l.length vc) ∧ f.get 20 = some (.slice wa l.length wc) ∧ f.get 21 = some (nv j) ∧ G = G2) l.length ?_ ?_
    · refine ⟨0, by omega, by omega, ?_, ?_, ?_, ?_, ?_, rfl⟩
      all_goals simp -implicitDefEqProofs (maxDischargeDepth := 6) (maxSteps := 1000000) only [go_sem, ↓reduceIte, Nat.reduceLT, Nat.reduceLeDiff, Nat.reduceEqDiff, Nat.reduceAdd, Nat.reduceMul, Nat.reduceSub, Nat.reduceBEq, reduceCtorEq, Int.reduceEq, Int.reduceLT, Int.reduceLE, Int.reduceNeg, Int.reduceToNat, nv, f0, f9]
      rfl
    clear f0 f1 f2 f3 f9 f10 f11 f12
    rintro m f G' ⟨j, rfl, hj, f0, f9, f18, f20, f21, hG⟩
    subst G'
    unfold L3_5
    by_cases hjl : j < l.length
    · have hjZ : (j : Int) < (l.length : Int) := by omega
      have hj0 : (0 : Int) ≤ (j : Int) := by omega
      have hw3 : IntKind.i64.wrap ((j : Int) + 1) = ((j + 1 : Nat) : Int) := IntWalk.i64_in _ (by omega)
      obtain ⟨b, o, c, x, e, hc, hx, hxk⟩ := hvl.at_ (i := j) (by simpa using hjl)
      simp only [Value.slice.injEq, List.length_map, true_and] at e
      obtain ⟨rfl, rfl⟩ := e
      obtain ⟨b', o', c', x', e, hc', hx', hxk'⟩ := hwl.at_ (i := j) (by simpa using hjl)
      simp only [Value.slice.injEq, List.length_map, true_and] at e
      obtain ⟨rfl, rfl⟩ := e
      simp only [List.getElem_map, nv] at hxk hxk'
      simp -implicitDefEqProofs (maxDischargeDepth := 6) (maxSteps := 1000000) only [go_sem, ↓reduceIte, Nat.reduceLT, Nat.reduceLeDiff, Nat.reduceEqDiff, Nat.reduceAdd, Nat.reduceMul, Nat.reduceSub, Nat.reduceBEq, reduceCtorEq, Int.reduceEq, Int.reduceLT, Int.reduceLE, Int.reduceNeg, Int.reduceToNat, f0, f9, f18, f20, f21, nv, goInt, hjZ, hj0, hc, hx, hxk, hc', hx', hxk', hw3]
      refine ⟨l.length - (j + 1), by omega, j + 1, rfl, by omega, ?_, ?_, ?_, ?_, ?_, rfl⟩
      · simp only [Tr.get_put, Nat.reduceEqDiff, ↓reduceIte, f0]
      · simp only [Tr.get_put, Nat.reduceEqDiff, ↓reduceIte, f9]
      · simp only [Tr.get_put, Nat.reduceEqDiff, ↓reduceIte, f18]
      · simp only [Tr.get_put, Nat.reduceEqDiff, ↓reduceIte, f20]
      · simp only [Tr.get_put, Nat.reduceEqDiff, ↓reduceIte, nv]
    · have hjZ : ¬ (j : Int) < (l.length : Int) := by omega
      simp -implicitDefEqProofs (maxDischargeDepth := 6) (maxSteps := 1000000) only [go_sem, ↓reduceIte, Nat.reduceLT, Nat.reduceLeDiff, Nat.reduceEqDiff, Nat.reduceAdd, Nat.reduceMul, Nat.reduceSub, Nat.reduceBEq, reduceCtorEq, Int.reduceEq, Int.reduceLT, Int.reduceLE, Int.reduceNeg, Int.reduceToNat, f0, f9, f18, f20, f21, nv, goInt, hjZ]
      refine CW_mono _ (kept_W (by omega) hl hI2.hr hI2.tw hI2.t) ?_
      rintro _ _ ⟨rfl, rfl⟩
      simp -implicitDefEqProofs (maxDischargeDepth := 6) (maxSteps := 1000000) only [go_sem, ↓reduceIte, Nat.reduceLT, Nat.reduceLeDiff, Nat.reduceEqDiff, Nat.reduceAdd, Nat.reduceMul, Nat.reduceSub, Nat.reduceBEq, reduceCtorEq, Int.reduceEq, Int.reduceLT, Int.reduceLE, Int.reduceNeg, Int.reduceToNat, ]
end Go.Am.T
namespace Go.Proofs.Ythanhcpnhionaaa
open Go.ChangeShapes Go.WideShapes Go.ChangeAt Go.RowKit Go.Am Go.Am.T Go.Deep
theorem bulk_one {H : Type} (d : DataW H) : 1 ≤ Rows.uptoBulk d := by
  cases d with
  | lit l => cases l <;> simp [Rows.uptoBulk]
  | nil => simp [Rows.uptoBulk]
  | ptr d => simp [Rows.uptoBulk]
  | slice elems spare => simp [Rows.uptoBulk]
  | agg parts => simp [Rows.uptoBulk]
  | iface t d => simp [Rows.uptoBulk]
  | map entries => simp [Rows.uptoBulk]
  | held h => simp [Rows.uptoBulk]
theorem bulk_part {H : Type} {d : DataW H} {l : List (DataW H)} (h : d ∈ l) : Rows.uptoBulk d ≤ Rows.uptoBulkAll l := by
  induction l with
  | nil => cases h
  | cons x r ih =>
    simp only [Rows.uptoBulkAll]
    rcases List.mem_cons.1 h with rfl | e
    · omega
    · have := ih e; omega
theorem bulk_len {H : Type} (l : List (DataW H)) : l.length ≤ Rows.uptoBulkAll l := by
  induction l with
  | nil => simp [Rows.uptoBulkAll]
  | cons x l ih => have := bulk_one x; simp only [Rows.uptoBulkAll, List.length_cons]; omega
theorem vr_len {β : Ren} {a a' : Option Addr} {n n' c c' : Nat} (h : VR β (.slice a n c) (.slice a' n' c')) : n = n' := by
  cases h <;> rfl
theorem act_len {W : World} {V : Value} {o : Option Ent} {i : Nat} {pv : Value} {l : List T.Act} (h : InAct W V o i pv l) (hi : i < base0) {a : Option Addr} {n c : Nat} (hV : V = .slice a n c) : l.length = n := by
  have hL : (List.replicate i none ++ [o] : InL)[i]? = some o := by
    rw [List.getElem?_append_right (by simp)]; simp
  obtain ⟨a', c', e, _⟩ := h.rd _ (by simp; omega) hL
  have hv := h.vr _ hL
  rw [e, hV] at hv
  exact vr_len hv
theorem open_actsB {Hd : Type} {enc : TypeId × Value → Hd} {W : World} {sp : Nat → Bool} {held : Bool} {V : Value} {n : Nat} {x : DataW Hd × List MemPlace} {f0 f1 f2 f3 : Field}
    (ht : Try.prog.underlying 45 = some (.slice 47)) (he : Try.prog.underlying 47 = some (.struct #[f0, f1, f2, f3])) (ce : Try.prog.cellsOf 47 = 4)
    (hf : f0.offset = 0 ∧ f1.offset = 1 ∧ f2.offset = 2 ∧ f3.offset = 3) (hk : Try.prog.underlying f0.type = some (.int .i64) ∧ Try.prog.underlying f1.type = some (.int .i64) ∧ Try.prog.underlying f2.type = some (.int .i64) ∧ Try.prog.underlying f3.type = some (.int .i64))
    (hc : Try.prog.cellsOf f0.type = 1 ∧ Try.prog.cellsOf f1.type = 1 ∧ Try.prog.cellsOf f2.type = 1 ∧ Try.prog.cellsOf f3.type = 1)
    (h : DataW.trod enc Try.prog W 0 sp held n 45 [V] = some x) (i : Nat) (hi : i < base0) : ∃ q : Option Ent × Value × List T.Act, InAct W V q.1 i q.2.1 q.2.2 ∧ q.2.2.length ≤ Rows.uptoBulk x.1 := by
  obtain ⟨q, hq⟩ := open_acts ht he ce hf hk hc h i
  refine ⟨q, hq, ?_⟩
  rcases open_slice ht h with ⟨h0, _⟩ | ⟨a, len, cap, m, n', D, Pl, h0, _, hl, hm, hmm, rfl, hx⟩
  · simp only [List.cons.injEq, and_true] at h0
    rw [act_len hq hi h0]
    omega
  · simp only [List.cons.injEq, and_true] at h0
    rw [act_len hq hi h0]
    have := bulk_len ((List.range len).map D)
    rw [List.length_map, List.length_range] at this
    simp only [Rows.uptoBulk]
    omega
theorem open_tasksB {Hd : Type} {enc : TypeId × Value → Hd} {W : World} {sp : Nat → Bool} {held : Bool} {v : Value} {d : DataW Hd} {ps : List MemPlace} {f0 f1 f2 f3 : Field}
    (hto : Try.prog.underlying 22 = some (.slice 45)) (co : Try.prog.cellsOf 45 = 1)
    (ht : Try.prog.underlying 45 = some (.slice 47)) (he : Try.prog.underlying 47 = some (.struct #[f0, f1, f2, f3])) (ce : Try.prog.cellsOf 47 = 4)
    (hf : f0.offset = 0 ∧ f1.offset = 1 ∧ f2.offset = 2 ∧ f3.offset = 3) (hk : Try.prog.underlying f0.type = some (.int .i64) ∧ Try.prog.underlying f1.type = some (.int .i64) ∧ Try.prog.underlying f2.type = some (.int .i64) ∧ Try.prog.underlying f3.type = some (.int .i64))
    (hc : Try.prog.cellsOf f0.type = 1 ∧ Try.prog.cellsOf f1.type = 1 ∧ Try.prog.cellsOf f2.type = 1 ∧ Try.prog.cellsOf f3.type = 1)
    (hone : v.cells = #[v]) (h : DataW.Trod enc Try.prog W 0 sp held 22 v d ps) (k : Nat) (hkb : ∀ a n c, v = .slice a n c → k + n ≤ base0) : ∃ o os tv ts av, InTasks W v k o os tv ts av ∧ ∀ l ∈ ts, l.length ≤ Rows.uptoBulk d := by
  obtain ⟨fuel, hfu⟩ := h
  rcases open_slice1 hto co hfu with ⟨hcs, _⟩ | ⟨a, len, cap, m, n, V, D, Pl, hcs, _, hl, hm, hmm, hxe, hx⟩
  · rw [hone] at hcs
    simp only [List.cons.injEq, and_true] at hcs
    subst hcs
    exact ⟨none, [], .slice none 0 0, [], fun _ => .slice none 0 0, ⟨rfl, (fun a n c e => by cases e; rfl), fun L _ _ => ⟨(fun e h => by cases h), fun j e h => by simp at h⟩, fun L _ => VR.nils 0 0 (by decide), fun L _ _ _ => ⟨⟨none, 0, rfl, fun h => absurd rfl h⟩, fun i hi => by cases hi⟩⟩, fun l hl => absurd hl (by simp)⟩
  rw [hone] at hcs
  simp only [List.cons.injEq, and_true] at hcs
  subst hcs
  have hcap : cap < openCap := by unfold maxLen at hm; unfold openCap; omega
  have hlm : len ≤ m := by rw [hmm]; split <;> omega
  by_cases hl0 : len = 0
  · subst hl0
    exact ⟨none, [], .slice (some ⟨0, 0, none⟩) 0 cap, [], fun _ => .slice none 0 0, ⟨rfl, (fun a n c e => by cases e; rfl), fun L _ _ => ⟨(fun e h => by cases h), fun j e h => by simp at h⟩, fun L hL => VR.sl 0 cap hcap hl (.inr (AR_dead hL)), fun L _ _ _ => ⟨⟨_, cap, rfl, fun h => absurd rfl h⟩, fun i hi => by cases hi⟩⟩, fun l hl => absurd hl (by simp)⟩
  have each : ∀ j, j < len → ∃ q : Option Ent × Value × List T.Act, InAct W (V j) q.1 (k + j) q.2.1 q.2.2 ∧ q.2.2.length ≤ Rows.uptoBulk (D j) := fun j hj => open_actsB ht he ce hf hk hc (hx j (by omega)).2 (k + j) (by have := hkb _ _ _ rfl; omega)
  have : Inhabited (Option Ent × Value × List T.Act) := ⟨(none, .nilIface, [])⟩
  obtain ⟨q, hq⟩ := choose_lt each
  obtain ⟨hs, sz, hent⟩ := ent_of (W := W) (a := a) (vs := (List.range len).map V) (by
    intro e
    have := congrArg List.length e
    simp at this; omega) (by
    intro j u hu
    rw [List.getElem?_map] at hu
    cases hj : (List.range len)[j]? with
    | none => rw [hj] at hu; cases hu
    | some j' =>
      rw [hj] at hu
      obtain ⟨h1, h2⟩ := List.getElem?_eq_some_iff.1 hj
      have h1 : j < len := by simpa using h1
      simp only [List.getElem_range] at h2
      subst h2
      cases hu
      exact (hx j (by omega)).1)
  refine ⟨some ⟨a.block, a.off, sz, (List.range len).map fun j => (q j).2.1⟩, (List.range len).map fun j => (q j).1, .slice (some ⟨0, 0, none⟩) len cap, (List.range len).map fun j => (q j).2.2, fun j => (q j).2.1, ⟨by simp, (fun a n c e => by cases e; simp), ?_, ?_, ?_⟩, fun l hl => ?_⟩
  · intro L h0 hL
    have hLj : ∀ j, j < len → L[k + j]? = some (q j).1 := by
      intro j hj
      rw [hL j (by simpa using hj)]
      simp [hj]
    refine ⟨fun e he => ?_, fun j e he => ?_⟩
    · cases he
      refine hent (inB L) _ ⟨by simp, fun j u u' hu hu' => ?_⟩
      rw [List.getElem?_map] at hu hu'
      cases hj : (List.range len)[j]? with
      | none => rw [hj] at hu; cases hu
      | some j' =>
        rw [hj] at hu hu'
        obtain ⟨h1, h2⟩ := List.getElem?_eq_some_iff.1 hj
        have h1 : j < len := by simpa using h1
        simp only [List.getElem_range] at h2
        subst h2
        cases hu; cases hu'
        exact (hq j h1).1.vr L (hLj j h1)
    · have hj : j < len := by
        apply Nat.lt_of_not_le; intro hn
        rw [List.getElem?_eq_none (by simpa using hn)] at he; cases he
      have he : some (q j).1 = some (some e) := by rw [← he]; simp [hj]
      exact (hq j hj).1.ok e (Option.some.inj he) L
  · intro L hL
    exact .sl len cap hcap hl (.inr (AR_in hL rfl rfl hs))
  · intro L hLb h0 hL
    have hLj : ∀ j, j < len → L[k + j]? = some (q j).1 := by
      intro j hj
      rw [hL j (by simpa using hj)]
      simp [hj]
    refine ⟨⟨some ⟨0, 0, none⟩, cap, by simp, fun _ => ⟨by omega, 0, 0, ⟨0, 0, false, (List.range len).map fun j => (q j).2.1⟩, rfl, ?_, fun j hj => ?_⟩⟩, fun j hj => ?_⟩
    · rw [inH_get L hLb, h0]
    · have hj' : j < len := by simpa using hj
      simp [hj']
    · have hj' : j < len := by simpa using hj
      simp only [List.getElem_map, List.getElem_range]
      exact (hq j hj').1.rd L hLb (hLj j hj')
  · rw [List.mem_map] at hl
    obtain ⟨j, hj, rfl⟩ := hl
    have hj : j < len := by simpa using hj
    have h1 := (hq j hj).2
    have h2 := bulk_part (show D j ∈ (List.range len).map D from List.mem_map.2 ⟨j, by simpa using hj, rfl⟩)
    cases hxe
    simp only [Rows.uptoBulk]
    omega
theorem trodAll_4 {H : Type} {enc : TypeId × Value → H} {P : Program} {w : World} {base : Nat} {spare : Nat → Bool} {held : Bool} {t0 t1 t2 t3 : TypeId} {args : Array Value} {ds : List (DataW H)} {ps : List MemPlace} (h : DataW.TrodAll enc P w base spare held [t0, t1, t2, t3] args.toList ds ps) :
    ∃ v0 v1 v2 v3 d0 d1 d2 d3 p0 p1 p2 p3, args = #[v0, v1, v2, v3] ∧ ds = [d0, d1, d2, d3] ∧ ps = p0 ++ p1 ++ p2 ++ p3 ∧ DataW.Trod enc P w base spare held t0 v0 d0 p0 ∧ DataW.Trod enc P w base spare held t1 v1 d1 p1 ∧ DataW.Trod enc P w base spare held t2 v2 d2 p2 ∧
      DataW.Trod enc P w base spare held t3 v3 d3 p3 := by
  obtain ⟨v0, vs0, d0, ds0, p0, q0, hargs, rfl, rfl, h0, hr⟩ := trodAll_cons h
  obtain ⟨v1, vs1, d1, ds1, p1, q1, rfl, rfl, rfl, h1, hr⟩ := trodAll_cons hr
  obtain ⟨v2, vs2, d2, ds2, p2, q2, rfl, rfl, rfl, h2, hr⟩ := trodAll_cons hr
  obtain ⟨v3, vs3, d3, ds3, p3, q3, rfl, rfl, rfl, h3, hr⟩ := trodAll_cons hr
  obtain ⟨rfl, rfl, rfl⟩ := trodAll_nil hr
  exact ⟨v0, v1, v2, v3, d0, d1, d2, d3, p0, p1, p2, p3, by cases args; simp_all, rfl, by simp, h0, h1, h2, h3⟩
set_option maxRecDepth 100000 in
theorem all_lifted (os : Os) (started : os.Started) (H : Type) (enc : TypeId × Value → H) (F : Stop.Interp) :
    ReturnsInHanded {} Try.checked os 3 .any ((Rows.OpenSpec.upto Rows.schedAllSpec).pre6 enc Try.prog Try.f3 Rows.schedAllUptoRow.domain false) (((Rows.OpenSpec.upto Rows.schedAllSpec).at F).post enc Try.prog Try.f3 false true false false) := by
  refine returnsInHanded_of_cond (C := Try.checked) (s := Rows.OpenSpec.upto Rows.schedAllSpec) (k := Rows.uptoSmall) rfl Try.own started (by kernel_rfl) Try.func3
    (OpenSpec.witness (enc := enc) (C := Try.checked) (s := Rows.OpenSpec.upto Rows.schedAllSpec) (k := Rows.uptoSmall) rfl false ⟨#[], #[.slice none 0 0, .int .i64 0, .slice none 0 0, .int .i64 0], []⟩ 8 (by kernel_rfl) (by kernel_rfl) (by kernel_rfl)
      (x := ([.nil, .lit (.int .i64 0), .nil, .lit (.int .i64 0)], [], [])) (by kernel_rfl) rfl (by kernel_rfl)) ?_
  intro W base args ds gs before hval0 hW _ hsm _
  have hval : ∀ (j : Nat) t v, Try.f3.params[j]? = some t → args[j]? = some v → Value.okWide Try.prog W .any base t v := hval0
  have hW' := hW
  obtain ⟨p, q, hA0, hV, rfl, hfz, hnd⟩ := hW
  have hA : DataW.TrodAll enc Try.prog W 0 (fun _ => true) true Try.f3.params.toList args.toList ds p := hA0
  rw [Try.params3] at hA hval
  obtain ⟨v0, v1, v2, v3, d0, d1, d2, d3, p0, p1, p2, p3, rfl, rfl, rfl, h0, h1, h2, h3⟩ := trodAll_4 hA
  obtain ⟨rfl, rfl⟩ := trodVars_none hV
  obtain ⟨ta, tn, tc, rfl⟩ := okWide_slice Try.underlying22 (hval 0 22 v0 rfl rfl)
  obtain ⟨room, rfl, rfl, rfl, _⟩ := open_int Try.underlying3 (hval 1 3 v1 rfl rfl) h1
  obtain ⟨sa, sn, sc, rfl⟩ := okWide_slice Try.underlying23 (hval 2 23 v2 rfl rfl)
  obtain ⟨most, rfl, rfl, rfl, _⟩ := open_int Try.underlying3 (hval 3 3 v3 rfl rfl) h3
  obtain ⟨op, pv, zs, hP⟩ := open_in Try.underlying23 Try.underlying3 (by kernel_rfl) rfl h2 1
  have hbk : Rows.uptoBulk d0 ≤ 1048576 := by
    have h : Rows.uptoBulkAll _ ≤ 1048576 := of_decide_eq_true hsm
    have := bulk_part (d := d0) (l := [d0, DataW.lit (Lit.int .i64 room), d2, DataW.lit (Lit.int .i64 most)] ++ []) (by simp)
    exact Nat.le_trans this h
  by_cases hbig : 40 < tn
  · obtain ⟨qa, hq⟩ := open_len Try.underlying22 h0 0
    obtain ⟨pa, pc, rfl, hpc⟩ := hP.sl
    have hLb : ([none, op] : InL).length ≤ base0 := by show 2 ≤ base0; unfold base0; omega
    have hent : ∀ (i : Nat) (e : Ent), ([none, op] : InL)[i]? = some (some e) → EntOk W (inB [none, op]) e := by
      intro i e he
      match i, he with
      | 0, he => simp at he
      | 1, he => exact hP.ok e (by simpa using he) _
      | i + 2, he => simp at he
    refine (calls_of Try.mixed Try.nameOk (L := [none, op]) hLb hent (args' := #[.slice ta tn tc, .int .i64 room, .slice sa sn sc, .int .i64 most]) ?_ (all_big (inH [none, op]).old (room := room) (most := most) (ta := qa) (tc := tc) (pa := pa) (np := zs.length) (pc := pc) hbig)).mono ?_
    · refine ⟨rfl, fun i u u' hu hu' => ?_⟩
      match i with
      | 0 => cases hu; cases hu'; exact hq _ rfl
      | 1 => cases hu; cases hu'; exact .int _ _
      | 2 => cases hu; cases hu'; exact hP.vr _ rfl
      | 3 => cases hu; cases hu'; exact .int _ _
      | i + 4 => simp at hu
    · rintro _ W' ⟨rfl, hb⟩
      exact ⟨_, rfl, law_post Try.laidOut hW' rfl rfl rfl rfl (by rw [Try.params3]; decide) (by kernel_rfl) Try.underlying4 hb⟩
  obtain ⟨o, os', tv, ts, av, hT, hlen⟩ := open_tasksB Try.underlying22 (by kernel_rfl) Try.underlying45 Try.underlying47 (by kernel_rfl) ⟨rfl, rfl, rfl, rfl⟩ ⟨Try.underlying3, Try.underlying3, Try.underlying3, Try.underlying2⟩ ⟨by kernel_rfl, by kernel_rfl, by kernel_rfl, by kernel_rfl⟩ rfl h0 2 (by
    intro a n c e
    cases e
    unfold base0; omega)
  generalize hL : (o :: op :: os' : InL) = L
  have l0 : L[0]? = some o := by rw [← hL]; rfl
  have l1 : L[1]? = some op := by rw [← hL]; rfl
  have l2 : ∀ j, L[2 + j]? = os'[j]? := by intro j; rw [← hL, Nat.add_comm]; rfl
  have hLb : L.length ≤ base0 := by
    rw [← hL]
    have h1 := hT.n _ _ _ rfl
    have h2 := hT.len
    show os'.length + 1 + 1 ≤ base0
    unfold base0; omega
  have hok := hT.ok L l0 fun j _ => l2 j
  have hent : ∀ (i : Nat) (e : Ent), L[i]? = some (some e) → EntOk W (inB L) e := by
    intro i e he
    match i, he with
    | 0, he => rw [l0] at he; exact hok.1 e (Option.some.inj he)
    | 1, he => rw [l1] at he; exact hP.ok e (Option.some.inj he) L
    | i + 2, he =>
      rw [Nat.add_comm, l2] at he
      exact hok.2 i e he
  have hrun := all_law (inH L).old (room := room) (most := most) (WF_in L hLb) (hT.rd L hLb l0 fun j _ => l2 j) (fun l hl => Nat.le_trans (hlen l hl) hbk) (hP.rd L hLb l1)
  refine (calls_of Try.mixed Try.nameOk (L := L) hLb hent (args' := #[.slice ta tn tc, .int .i64 room, .slice sa sn sc, .int .i64 most]) ?_ hrun).mono ?_
  · refine ⟨rfl, fun i u u' hu hu' => ?_⟩
    match i with
    | 0 => cases hu; cases hu'; exact hT.vr _ l0
    | 1 => cases hu; cases hu'; exact .int _ _
    | 2 => cases hu; cases hu'; exact hP.vr _ l1
    | 3 => cases hu; cases hu'; exact .int _ _
    | i + 4 => simp at hu
  · rintro _ W' ⟨rfl, hb⟩
    exact ⟨_, rfl, law_post Try.laidOut hW' rfl rfl rfl rfl (by rw [Try.params3]; decide) (by kernel_rfl) Try.underlying4 hb⟩
theorem schedAll_holds : Rows.SchedAllUptoSaid :=
  OpenClaim.holds_of_cond 3 Try.f3 rfl rfl rfl rfl rfl rfl rfl ⟨rfl, rfl, rfl, rfl, rfl⟩ rfl rfl rfl rfl rfl (by kernel_rfl) Try.func3 (by kernel_rfl)
    (of_decide_eq_true (by kernel_rfl)) (by unfold Func.isWrapper; first | (rw [if_pos (by decide +kernel)]; kernel_rfl) | (rw [if_neg (by decide +kernel)]; exact ⟨rfl, rfl⟩))
    (fun os started H enc _ F => all_lifted os started H enc F)
#print axioms schedAll_holds
end Go.Proofs.Ythanhcpnhionaaa
