/- The walk of the scheduler's Run. Conditions: those of each theorem. -/
import Derived.Test.YthanhcpnhionaaaSdN
set_option linter.all false
set_option linter.unusedSimpArgs false
set_option linter.unusedVariables false
namespace Go.Am.T
open Go Go.Am Go.Proofs.Ythanhcpnhionaaa Go.Proofs

@[go_sem] theorem sliceR_full {b o : Nat} : sliceR 8 1 b o none none none = some (.slice (some ⟨b, o, none⟩) 8 8) := by simp [sliceR, boundA]
@[go_sem] theorem run_q4 {R : RunV} : ((runCells R).drop 10).take 4 = [R.queues 0, R.queues 1, R.queues 2, R.queues 3] := rfl
/- append of all of a list to nil -/
theorem appNil {p : Nat → Prop} {H : Heap} {es ty bytes : Nat} {a : Option Addr} {n c : Nat} {cs : List Value} (hw : WF H) (h : OwnL p H es ty (.slice a n c) n cs) (hb : 4 * n * bytes + 4096 ≤ 2 ^ 47) (hb2 : n ≤ 2 ^ 47) :
    ∃ v' H', appS H ty es bytes none 0 0 (.slice a n c) = some (v', H') ∧ Ext H H' ∧ OwnL (fun b => H.next ≤ b) H' es ty v' n cs := by
  by_cases h0 : n = 0
  · subst h0
    refine ⟨.slice none 0 0, H, appS_nil0, Ext.refl hw, .inl ⟨rfl, rfl, ?_⟩⟩
    have := h.len; exact List.eq_nil_of_length_eq_zero (by simpa using this)
  · refine ⟨_, _, appS_nil rfl (firstA_own h (by omega)) (by omega) hb hb2, (Ext.refl hw).alloc _, .inr ⟨H.next, 0, [], rfl, hw.1, Nat.le_refl _, get_alloc_eq hw.1, rfl, h.len⟩⟩
def regL (S : Sx) : List Value := (List.range 8).map fun j => iv (S.regs j)
theorem firstA_regs {H : Heap} {r : Nat} {M : Mem} {S : Sx} (h : H.get r = some (runB (rv M S))) : firstA H 1 8 (.slice (some ⟨r, 14, none⟩) 8 8) = some (regL S) := by
  show (if 8 = 0 then some [] else if 8 = 0 then none else H.loads ⟨r, 14, none⟩ (8 * 1)) = _
  rw [if_neg (by omega), if_neg (by omega), loads_eq, h]
  rfl

def outB (n : Nat) (trv rgv ev qs : Value) : Blk := ⟨33, 0, false, [nv n, trv, rgv, ev, qs]⟩
/- what is told so far -/
structure Out (H3 : Heap) (S : Sx) (bo : Nat) (trv rgv ev qs : Value) (k : Nat) (qv : Nat → Value) (i : Nat) (G : Heap) : Prop where
  ext : Ext H3 G
  ge : H3.next ≤ bo
  cell : G.get bo = some (outB S.trace.length trv rgv ev qs)
  regs : OwnL (fun b => H3.next ≤ b) G 1 2 rgv 8 (regL S)
  qs : OwnL (fun b => H3.next ≤ b) G 1 29 qs k ((List.range k).map qv)
  q : ∀ j, j < k → OwnL (fun b => H3.next ≤ b) G 1 2 (qv j) (S.queues j).length ((S.queues j).map iv)
  ends : OwnL (fun b => H3.next ≤ b) G 2 49 ev i ((List.range i).flatMap fun i => [iv (howS S i), iv (S.tk i).n])

theorem Out.of {H3 G G' : Heap} {S : Sx} {bo k i : Nat} {trv rgv ev qs : Value} {qv : Nat → Value} (h : Out H3 S bo trv rgv ev qs k qv i G) (e : Ext G G') : Out H3 S bo trv rgv ev qs k qv i G' :=
  ⟨h.ext.trans e, h.ge, e.of h.ext.wf h.cell, h.regs.frame fun b x hb hg => ⟨hb, e.of h.ext.wf hg⟩, h.qs.frame fun b x hb hg => ⟨hb, e.of h.ext.wf hg⟩, fun j hj => (h.q j hj).frame fun b x hb hg => ⟨hb, e.of h.ext.wf hg⟩,
   h.ends.frame fun b x hb hg => ⟨hb, e.of h.ext.wf hg⟩⟩

def RunPost (H : Heap) (ts : List (List Act)) (room : Int) (picks : List Int) (most : Int) (x : CR) (H' : Heap) : Prop :=
  Ext H H' ∧ (askedP ts room picks most ≠ 0 → x = .ret (.tuple #[.agg #[.int .i64 0, .slice none 0 0, .slice none 0 0, .slice none 0 0, .slice none 0 0], .int .i64 (askedP ts room picks most)])) ∧
    (askedP ts room picks most = 0 → ∃ trv rgv ev qsv qv, x = .ret (.tuple #[.agg #[nv (runM most.toNat (S0 ts room) picks).trace.length, trv, rgv, ev, qsv], .int .i64 0]) ∧ RanAt H.next H' (runM most.toNat (S0 ts room) picks) trv rgv ev qsv qv)

theorem Run_W {H : Heap} (hw : WF H) {tv pv : Value} {ts : List (List Act)} {av : Nat → Value} (ht : TasksAt H tv ts av) (hN : ts.length ≤ 70368744177664) {room most : Int} {picks : List Int} (hp : RdI H pv (picks.map iv)) :
    CW Try.prog 15 #[tv, .int .i64 room, pv, .int .i64 most] H (RunPost H ts room picks most) := by
  refine CW_k (n := 87) if15 rfl ?_
  unfold C15
  have hnb := hw.1
  have hE0 := (Ext.refl hw).alloc (⟨33, 0, false, [.int .i64 0, .slice none 0 0, .slice none 0 0, .slice none 0 0, .slice none 0 0]⟩ : Blk)
  simp (config := { implicitDefEqProofs := false, maxDischargeDepth := 6, maxSteps := 1000000 }) only [go_sem, ↓reduceIte, Nat.reduceLT, Nat.reduceLeDiff, Nat.reduceEqDiff, Nat.reduceAdd, Nat.reduceMul, Nat.reduceSub, Nat.reduceBEq, reduceCtorEq, Int.reduceEq, Int.reduceLT, Int.reduceLE, Int.reduceNeg, Int.reduceToNat, hnb]
  refine CW_mono _ (asked_W hE0.wf (ht.of hw hE0) hN (room := room) (most := most) (hp.of fun b x hb => hE0.of hw hb)) ?_
  rintro _ H1 ⟨rfl, hE1⟩
  have hc1 := hE1.of hE0.wf (get_alloc_eq hnb)
  have hnb1 := hE1.wf.1
  by_cases h0 : askedP ts room picks most = 0
  case neg =>
    simp (config := { implicitDefEqProofs := false, maxDischargeDepth := 6, maxSteps := 1000000 }) only [go_sem, ↓reduceIte, Nat.reduceLT, Nat.reduceLeDiff, Nat.reduceEqDiff, Nat.reduceAdd, Nat.reduceMul, Nat.reduceSub, Nat.reduceBEq, reduceCtorEq, Int.reduceEq, Int.reduceLT, Int.reduceLE, Int.reduceNeg, Int.reduceToNat, h0, hc1, hnb, loads_eq]
    refine ⟨?_, fun _ => rfl, fun h => absurd h h0⟩
    first | exact hE0.trans hE1 | exact (hE0.trans hE1).set (Nat.le_refl _) (hE1.wf.lt hc1) _
  have hf := asked_ok h0
  simp (config := { implicitDefEqProofs := false, maxDischargeDepth := 6, maxSteps := 1000000 }) only [go_sem, ↓reduceIte, Nat.reduceLT, Nat.reduceLeDiff, Nat.reduceEqDiff, Nat.reduceAdd, Nat.reduceMul, Nat.reduceSub, Nat.reduceBEq, reduceCtorEq, Int.reduceEq, Int.reduceLT, Int.reduceLE, Int.reduceNeg, Int.reduceToNat, h0]
  refine CW_mono _ (begun_W hE1.wf ((ht.of hw hE0).of hE0.wf hE1) (room := room) (by have := hf.n; omega)) ?_
  rintro _ H2 ⟨r, M, rfl, h2, hE2, hno, _⟩
  have hpo := hf.pos
  have hE02 := (hE0.trans hE1).trans hE2
  have hno' : ∀ b, b < H.next → M.own b = none := fun b hb => hno b (Nat.lt_of_lt_of_le hb (hE0.trans hE1).le)
  have hpN := hp.noOwn hw hE02 hno'
  have hmo : most = ((most.toNat : Nat) : Int) := by have := hf.m1; omega
  simp (config := { implicitDefEqProofs := false, maxDischargeDepth := 6, maxSteps := 1000000 }) only [go_sem, ↓reduceIte, Nat.reduceLT, Nat.reduceLeDiff, Nat.reduceEqDiff, Nat.reduceAdd, Nat.reduceMul, Nat.reduceSub, Nat.reduceBEq, reduceCtorEq, Int.reduceEq, Int.reduceLT, Int.reduceLE, Int.reduceNeg, Int.reduceToNat, ]
  have hall := all_W h2 hf.okR (picks := picks) hpN hpo (most := most.toNat) (by have := hf.m2; omega) (by simp [S0])
  rw [nv, ← hmo] at hall
  refine CW_mono _ hall ?_
  rintro _ H3 ⟨rfl, M3, h3, hF3⟩
  have hE3 := Frm.toExt hE02 h3.wf hF3 hno'
  have e : most.toNat - (S0 ts room).trace.length = most.toNat := by simp [S0]
  rw [e] at h3
  have ok3 := okR_run most.toNat picks hf.okR
  have hl3 := runM_len most.toNat (S := S0 ts room) picks
  have hNN := (runM_N most.toNat (S := S0 ts room) picks).1
  have hc3 : H3.get H.next = some ⟨33, 0, false, [.int .i64 0, .slice none 0 0, .slice none 0 0, .slice none 0 0, .slice none 0 0]⟩ := by
    have hl1 := hE1.wf.lt hc1
    rw [hF3.get H.next (Nat.lt_of_lt_of_le hl1 hE2.le) (hno _ hl1)]
    exact hE2.of hE1.wf hc1
  have hlo : ∀ b ro, M3.own b = some ro → H.next ≤ b ∧ b ≠ H.next := by
    intro b ro hb
    have hl1 := hE1.wf.lt hc1
    have hle := hE2.le
    have : ¬ b < H1.next := by
      intro hlt
      rw [hF3.own b (by omega), hno b hlt] at hb; cases hb
    omega
  generalize hS : runM most.toNat (S0 ts room) picks = S at *
  obtain ⟨tra, trc, htr⟩ := (h3.trace (by simp)).sl
  have hr3 := h3.run
  have hrl := h3.lt r (by rw [h3.ro]; simp)
  have hnb3 := h3.wf.1
  simp (config := { implicitDefEqProofs := false, maxDischargeDepth := 6, maxSteps := 1000000 }) only [go_sem, ↓reduceIte, Nat.reduceLT, Nat.reduceLeDiff, Nat.reduceEqDiff, Nat.reduceAdd, Nat.reduceMul, Nat.reduceSub, Nat.reduceBEq, reduceCtorEq, Int.reduceEq, Int.reduceLT, Int.reduceLE, Int.reduceNeg, Int.reduceToNat, hr3, htr, hrl, hnb3, goInt]
  refine Wk_w_c rfl rfl ?_
  simp (config := { implicitDefEqProofs := false, maxDischargeDepth := 6, maxSteps := 1000000 }) only [go_sem, ↓reduceIte, Nat.reduceLT, Nat.reduceLeDiff, Nat.reduceEqDiff, Nat.reduceAdd, Nat.reduceMul, Nat.reduceSub, Nat.reduceBEq, reduceCtorEq, Int.reduceEq, Int.reduceLT, Int.reduceLE, Int.reduceNeg, Int.reduceToNat, hr3, htr, hrl, hnb3, goInt]
  refine cK_vh (appS_nil (n := 8) rfl (firstA_regs (H := bump H3 18) hr3) (by omega) (by omega) (by omega)) ?_
  simp (config := { implicitDefEqProofs := false, maxDischargeDepth := 6, maxSteps := 1000000 }) only [go_sem, ↓reduceIte, Nat.reduceLT, Nat.reduceLeDiff, Nat.reduceEqDiff, Nat.reduceAdd, Nat.reduceMul, Nat.reduceSub, Nat.reduceBEq, reduceCtorEq, Int.reduceEq, Int.reduceLT, Int.reduceLE, Int.reduceNeg, Int.reduceToNat, hr3, htr, hrl, hnb3, goInt]
  refine cK_some ?_ ?_
  · simp (config := { implicitDefEqProofs := false, maxDischargeDepth := 6, maxSteps := 1000000 }) only [go_sem, ↓reduceIte, Nat.reduceLT, Nat.reduceLeDiff, Nat.reduceEqDiff, Nat.reduceAdd, Nat.reduceMul, Nat.reduceSub, Nat.reduceBEq, reduceCtorEq, Int.reduceEq, Int.reduceLT, Int.reduceLE, Int.reduceNeg, Int.reduceToNat, reK, hr3, htr, hrl, hnb3, goInt]
  simp (config := { implicitDefEqProofs := false, maxDischargeDepth := 6, maxSteps := 1000000 }) only [go_sem, ↓reduceIte, Nat.reduceLT, Nat.reduceLeDiff, Nat.reduceEqDiff, Nat.reduceAdd, Nat.reduceMul, Nat.reduceSub, Nat.reduceBEq, reduceCtorEq, Int.reduceEq, Int.reduceLT, Int.reduceLE, Int.reduceNeg, Int.reduceToNat, hr3, htr, hrl, hnb3, goInt]
  refine Wk_w_c rfl rfl ?_
  simp (config := { implicitDefEqProofs := false, maxDischargeDepth := 6, maxSteps := 1000000 }) only [go_sem, ↓reduceIte, Nat.reduceLT, Nat.reduceLeDiff, Nat.reduceEqDiff, Nat.reduceAdd, Nat.reduceMul, Nat.reduceSub, Nat.reduceBEq, reduceCtorEq, Int.reduceEq, Int.reduceLT, Int.reduceLE, Int.reduceNeg, Int.reduceToNat, hr3, htr, hrl, hnb3, goInt]
  have h10 : (10 : Nat) + 4 ≤ 24 := by omega
  simp (config := { implicitDefEqProofs := false, maxDischargeDepth := 6, maxSteps := 1000000 }) only [go_sem, ↓reduceIte, Nat.reduceLT, Nat.reduceLeDiff, Nat.reduceEqDiff, Nat.reduceAdd, Nat.reduceMul, Nat.reduceSub, Nat.reduceBEq, reduceCtorEq, Int.reduceEq, Int.reduceLT, Int.reduceLE, Int.reduceNeg, Int.reduceToNat, hr3, htr, hrl, hnb3, goInt, loads_eq, h10]
  have hq : ∀ j, ∃ a c, j < 4 → M3.qv j = .slice a (S.queues j).length c := by
    intro j
    by_cases hj : j < 4
    · obtain ⟨a, c, e⟩ := (h3.queue j hj (by simp)).sl; exact ⟨a, c, fun _ => e⟩
    · exact ⟨none, 0, fun h => absurd h hj⟩
  refine Wk_loopF (fun m f G => ∃ k qs qv, m = 4 - k ∧ k ≤ 4 ∧ f.get 8 = some (.pointer (some ⟨H.next, 0, none⟩)) ∧ f.get 11 = some (.pointer (some ⟨r, 0, none⟩)) ∧ f.get 12 = some (.pointer (some ⟨H3.next + 15, 0, none⟩)) ∧
    f.get 51 = some (.agg #[M3.qv 0, M3.qv 1, M3.qv 2, M3.qv 3]) ∧ f.get 52 = some (nv k) ∧ Out H3 S (H3.next + 15) (.slice tra S.trace.length trc) (.slice (some ⟨H3.next + 18, 0, none⟩) 8 openCap) (.slice none 0 0) qs k qv 0 G) 4 ?_ ?_
  · have hE4 := ((Ext.bump (Ext.refl h3.wf) 18).alloc (⟨2, 1, true, regL S⟩ : Blk)).set (b := H3.next + 15) (by omega) (by simp only [next_alloc, next_bump]; omega) (outB S.trace.length (.slice tra S.trace.length trc) (.slice (some ⟨H3.next + 18, 0, none⟩) 8 openCap) (.slice none 0 0) (.slice none 0 0))
    refine ⟨0, .slice none 0 0, fun _ => .slice none 0 0, by omega, by omega, ?_, ?_, ?_, ?_, ?_, hE4, by omega, get_set_eq (by omega), ?_, .inl ⟨rfl, rfl, rfl⟩, fun j hj => absurd hj (by omega), .inl ⟨rfl, rfl, rfl⟩⟩
    rotate_left 5
    · refine .inr ⟨H3.next + 18, 0, [], rfl, by omega, by omega, ?_, rfl, rfl⟩
      rw [get_set_ne (by omega), get_alloc_at (by simp only [next_bump]; omega) (by simp only [next_bump])]
      rfl
    all_goals simp (config := { implicitDefEqProofs := false, maxDischargeDepth := 6, maxSteps := 1000000 }) only [go_sem, ↓reduceIte, Nat.reduceLT, Nat.reduceLeDiff, Nat.reduceEqDiff, Nat.reduceAdd, Nat.reduceMul, Nat.reduceSub, Nat.reduceBEq, reduceCtorEq, Int.reduceEq, Int.reduceLT, Int.reduceLE, Int.reduceNeg, Int.reduceToNat, nv]
    rfl
  rintro m f G ⟨k, qs, qv, rfl, hk, f8, f11, f12, f51, f52, hO⟩
  unfold L15_1
  by_cases hlt : k < 4
  · have hltZ : (k : Int) < 4 := by omega
    have hk0 : (0 : Int) ≤ (k : Int) := by omega
    have hw1 : IntKind.i64.wrap ((k : Int) + 1) = ((k + 1 : Nat) : Int) := IntWalk.i64_in _ (by omega)
    have hix : (#[M3.qv 0, M3.qv 1, M3.qv 2, M3.qv 3] : Array Value)[k]? = some (M3.qv k) := by
      match k, hlt with | 0, _ | 1, _ | 2, _ | 3, _ => rfl
    obtain ⟨qa, qc, hqk⟩ := hq k
    have hqk := hqk hlt
    have hcell := hO.cell
    have hnbG := hO.ext.wf.1
    obtain ⟨sa, sc, rfl⟩ := hO.qs.sl
    simp (config := { implicitDefEqProofs := false, maxDischargeDepth := 6, maxSteps := 1000000 }) only [go_sem, ↓reduceIte, Nat.reduceLT, Nat.reduceLeDiff, Nat.reduceEqDiff, Nat.reduceAdd, Nat.reduceMul, Nat.reduceSub, Nat.reduceBEq, reduceCtorEq, Int.reduceEq, Int.reduceLT, Int.reduceLE, Int.reduceNeg, Int.reduceToNat, f8, f11, f12, f51, f52, nv, hltZ, hk0, hix, hqk, hcell, outB]
    refine Wk_w_c rfl rfl ?_
    simp (config := { implicitDefEqProofs := false, maxDischargeDepth := 6, maxSteps := 1000000 }) only [go_sem, ↓reduceIte, Nat.reduceLT, Nat.reduceLeDiff, Nat.reduceEqDiff, Nat.reduceAdd, Nat.reduceMul, Nat.reduceSub, Nat.reduceBEq, reduceCtorEq, Int.reduceEq, Int.reduceLT, Int.reduceLE, Int.reduceNeg, Int.reduceToNat, f8, f11, f12, f51, f52, nv, hltZ, hk0, hix, hqk, hcell, outB]
    have hOq := h3.queue k hlt (by simp)
    rw [hqk] at hOq
    have hEb := Ext.bump (Ext.refl hO.ext.wf) 9
    have hqb := ok3.qb k
    have hm2 := hf.m2
    have h30 : (S0 ts room).trace.length = 0 := rfl
    obtain ⟨v', G1, ha1, hE1', hv'⟩ := appNil (bytes := 8) hEb.wf (hOq.frame (p' := fun b => M3.own b = some (.queue k)) fun b x hb hg => ⟨hb, (hO.ext.trans hEb).of h3.wf hg⟩) (by omega) (by omega)
    refine cK_vh ha1 ?_
    obtain ⟨va, vc, rfl⟩ := hv'.sl
    have hO1 := hO.of (hEb.trans hE1')
    have hcell1 := hO1.cell
    have hnb1' := hO1.ext.wf.1
    simp (config := { implicitDefEqProofs := false, maxDischargeDepth := 6, maxSteps := 1000000 }) only [go_sem, ↓reduceIte, Nat.reduceLT, Nat.reduceLeDiff, Nat.reduceEqDiff, Nat.reduceAdd, Nat.reduceMul, Nat.reduceSub, Nat.reduceBEq, reduceCtorEq, Int.reduceEq, Int.reduceLT, Int.reduceLE, Int.reduceNeg, Int.reduceToNat, f8, f11, f12]
    refine cK_some ?_ ?_
    · simp (config := { implicitDefEqProofs := false, maxDischargeDepth := 6, maxSteps := 1000000 }) only [go_sem, ↓reduceIte, Nat.reduceLT, Nat.reduceLeDiff, Nat.reduceEqDiff, Nat.reduceAdd, Nat.reduceMul, Nat.reduceSub, Nat.reduceBEq, reduceCtorEq, Int.reduceEq, Int.reduceLT, Int.reduceLE, Int.reduceNeg, Int.reduceToNat, reK, f8, f11, f12, hcell1, outB]
    simp (config := { implicitDefEqProofs := false, maxDischargeDepth := 6, maxSteps := 1000000 }) only [go_sem, ↓reduceIte, Nat.reduceLT, Nat.reduceLeDiff, Nat.reduceEqDiff, Nat.reduceAdd, Nat.reduceMul, Nat.reduceSub, Nat.reduceBEq, reduceCtorEq, Int.reduceEq, Int.reduceLT, Int.reduceLE, Int.reduceNeg, Int.reduceToNat, f8, f11, f12, hcell1, outB]
    refine Wk_w_c rfl rfl ?_
    simp (config := { implicitDefEqProofs := false, maxDischargeDepth := 6, maxSteps := 1000000 }) only [go_sem, ↓reduceIte, Nat.reduceLT, Nat.reduceLeDiff, Nat.reduceEqDiff, Nat.reduceAdd, Nat.reduceMul, Nat.reduceSub, Nat.reduceBEq, reduceCtorEq, Int.reduceEq, Int.reduceLT, Int.reduceLE, Int.reduceNeg, Int.reduceToNat, f8, f11, f12, hcell1, outB]
    have hle1 : G.next + 9 ≤ G1.next := hE1'.le
    have hE2' := (hEb.trans hE1').set (b := G.next + 4) (by omega) (by omega) (⟨29, 0, false, [.slice va (S.queues k).length vc]⟩ : Blk)
    have hO2 := hO.of hE2'
    have hv2 : OwnL (fun b => H3.next ≤ b) (G1.set (G.next + 4) ⟨29, 0, false, [.slice va (S.queues k).length vc]⟩) 1 2 (.slice va (S.queues k).length vc) (S.queues k).length ((S.queues k).map iv) := by
      refine hv'.frame fun b x hb hg => ⟨?_, ?_⟩
      · have := hO.ext.le; have : G.next + 9 ≤ b := hb; omega
      · have : G.next + 9 ≤ b := hb
        rw [get_set_ne (by omega)]; exact hg
    obtain ⟨G3, ha3, hE3', hqs3, hn3, hk3⟩ := appO (bytes := 24) (nb := G.next + 4) (x := ⟨29, 0, false, [.slice va (S.queues k).length vc]⟩) (vs := [.slice va (S.queues k).length vc]) hO2.ext hO2.qs (get_set_eq (by omega)) rfl rfl (by omega) rfl (by omega) (by omega)
    refine cK_vh ha3 ?_
    have hcell3 := hk3 _ _ hO2.cell (.inl rfl)
    have hnb3' := hE3'.wf.1
    have hbo : base0 ≤ H3.next + 15 := by omega
    simp only [next_set] at ha3 hqs3 hn3
    simp (config := { implicitDefEqProofs := false, maxDischargeDepth := 6, maxSteps := 1000000 }) only [go_sem, ↓reduceIte, Nat.reduceLT, Nat.reduceLeDiff, Nat.reduceEqDiff, Nat.reduceAdd, Nat.reduceMul, Nat.reduceSub, Nat.reduceBEq, reduceCtorEq, Int.reduceEq, Int.reduceLT, Int.reduceLE, Int.reduceNeg, Int.reduceToNat, f8, f11, f12, hcell3, outB]
    refine Wk_w_c rfl rfl ?_
    simp (config := { implicitDefEqProofs := false, maxDischargeDepth := 6, maxSteps := 1000000 }) only [go_sem, ↓reduceIte, Nat.reduceLT, Nat.reduceLeDiff, Nat.reduceEqDiff, Nat.reduceAdd, Nat.reduceMul, Nat.reduceSub, Nat.reduceBEq, reduceCtorEq, Int.reduceEq, Int.reduceLT, Int.reduceLE, Int.reduceNeg, Int.reduceToNat, f8, f11, f12, f52, nv, hcell3, outB, hbo, hw1]
    have hE4' := hE3'.set (b := H3.next + 15) (by omega) (hE3'.wf.lt hcell3) (outB S.trace.length (.slice tra S.trace.length trc) (.slice (some ⟨H3.next + 18, 0, none⟩) 8 openCap) (.slice none 0 0) (.slice (some ⟨G1.next, 0, none⟩) (k + 1) openCap))
    have keep : ∀ {es ty n : Nat} {v : Value} {cs : List Value}, ty ≠ 29 → ty ≠ 33 → OwnL (fun b => H3.next ≤ b) (G1.set (G.next + 4) ⟨29, 0, false, [.slice va (S.queues k).length vc]⟩) es ty v n cs →
        OwnL (fun b => H3.next ≤ b) (G3.set (H3.next + 15) (outB S.trace.length (.slice tra S.trace.length trc) (.slice (some ⟨H3.next + 18, 0, none⟩) 8 openCap) (.slice none 0 0) (.slice (some ⟨G1.next, 0, none⟩) (k + 1) openCap))) es ty v n cs := by
      intro es ty n v cs h29 h33 ho
      refine ho.frameO fun b x hb hg hx => ⟨hb, ?_⟩
      have hg3 := hk3 _ _ hg (.inr (by rw [hx.2]; exact h29))
      rw [get_set_ne]
      · exact hg3
      · intro e; subst e; rw [hcell3] at hg3; cases hg3; cases hx.1
    refine ⟨4 - (k + 1), by omega, k + 1, .slice (some ⟨G1.next, 0, none⟩) (k + 1) openCap, upd qv k (.slice va (S.queues k).length vc), rfl, by omega, ?_, ?_, ?_, ?_, ?_, hE4', by omega, get_set_eq hbo, keep (by omega) (by omega) hO2.regs, ?_, ?_, keep (by omega) (by omega) hO2.ends⟩
    · simp (config := { implicitDefEqProofs := false, maxDischargeDepth := 6, maxSteps := 1000000 }) only [go_sem, ↓reduceIte, Nat.reduceLT, Nat.reduceLeDiff, Nat.reduceEqDiff, Nat.reduceAdd, Nat.reduceMul, Nat.reduceSub, Nat.reduceBEq, reduceCtorEq, Int.reduceEq, Int.reduceLT, Int.reduceLE, Int.reduceNeg, Int.reduceToNat, f8]
    · simp (config := { implicitDefEqProofs := false, maxDischargeDepth := 6, maxSteps := 1000000 }) only [go_sem, ↓reduceIte, Nat.reduceLT, Nat.reduceLeDiff, Nat.reduceEqDiff, Nat.reduceAdd, Nat.reduceMul, Nat.reduceSub, Nat.reduceBEq, reduceCtorEq, Int.reduceEq, Int.reduceLT, Int.reduceLE, Int.reduceNeg, Int.reduceToNat, f11]
    · simp (config := { implicitDefEqProofs := false, maxDischargeDepth := 6, maxSteps := 1000000 }) only [go_sem, ↓reduceIte, Nat.reduceLT, Nat.reduceLeDiff, Nat.reduceEqDiff, Nat.reduceAdd, Nat.reduceMul, Nat.reduceSub, Nat.reduceBEq, reduceCtorEq, Int.reduceEq, Int.reduceLT, Int.reduceLE, Int.reduceNeg, Int.reduceToNat, f12]
    · simp (config := { implicitDefEqProofs := false, maxDischargeDepth := 6, maxSteps := 1000000 }) only [go_sem, ↓reduceIte, Nat.reduceLT, Nat.reduceLeDiff, Nat.reduceEqDiff, Nat.reduceAdd, Nat.reduceMul, Nat.reduceSub, Nat.reduceBEq, reduceCtorEq, Int.reduceEq, Int.reduceLT, Int.reduceLE, Int.reduceNeg, Int.reduceToNat, f51]
    · simp (config := { implicitDefEqProofs := false, maxDischargeDepth := 6, maxSteps := 1000000 }) only [go_sem, ↓reduceIte, Nat.reduceLT, Nat.reduceLeDiff, Nat.reduceEqDiff, Nat.reduceAdd, Nat.reduceMul, Nat.reduceSub, Nat.reduceBEq, reduceCtorEq, Int.reduceEq, Int.reduceLT, Int.reduceLE, Int.reduceNeg, Int.reduceToNat, nv]
    · rw [List.range_succ, List.map_append]
      have e1 : (List.range k).map (upd qv k (.slice va (S.queues k).length vc)) = (List.range k).map qv := by
        apply List.map_congr_left
        intro j hj
        exact upd_ne (by have := List.mem_range.1 hj; omega)
      rw [e1]
      simp only [List.map_cons, List.map_nil, upd_same]
      refine hqs3.frameO fun b x hb hg hx => ⟨hb, ?_⟩
      rw [get_set_ne]
      · exact hg
      · intro e; subst e; rw [hcell3] at hg; cases hg; cases hx.1
    · intro j hj
      by_cases e : j = k
      · subst e; rw [upd_same]; exact keep (by omega) (by omega) hv2
      · rw [upd_ne e]; exact keep (by omega) (by omega) (hO2.q j (by omega))
  · have hltZ : ¬ (k : Int) < 4 := by omega
    obtain rfl : k = 4 := by omega
    obtain ⟨tta, ttc, httv, _⟩ := h3.arr
    have hrG := hO.ext.of h3.wf hr3
    simp (config := { implicitDefEqProofs := false, maxDischargeDepth := 6, maxSteps := 1000000 }) only [go_sem, ↓reduceIte, Nat.reduceLT, Nat.reduceLeDiff, Nat.reduceEqDiff, Nat.reduceAdd, Nat.reduceMul, Nat.reduceSub, Nat.reduceBEq, reduceCtorEq, Int.reduceEq, Int.reduceLT, Int.reduceLE, Int.reduceNeg, Int.reduceToNat, f8, f11, f12, f51, f52, nv, hltZ, hrG, httv, goInt]
    refine Wk_loopF (fun m f G => ∃ i ev, m = S.N - i ∧ i ≤ S.N ∧ f.get 8 = some (.pointer (some ⟨H.next, 0, none⟩)) ∧ f.get 11 = some (.pointer (some ⟨r, 0, none⟩)) ∧ f.get 12 = some (.pointer (some ⟨H3.next + 15, 0, none⟩)) ∧
      f.get 66 = some (.slice tta S.N ttc) ∧ f.get 67 = some (nv S.N) ∧ f.get 68 = some (nv i) ∧ Out H3 S (H3.next + 15) (.slice tra S.trace.length trc) (.slice (some ⟨H3.next + 18, 0, none⟩) 8 openCap) ev qs 4 qv i G) S.N ?_ ?_
    · refine ⟨0, .slice none 0 0, by omega, by omega, ?_, ?_, ?_, ?_, ?_, ?_, hO⟩
      all_goals simp (config := { implicitDefEqProofs := false, maxDischargeDepth := 6, maxSteps := 1000000 }) only [go_sem, ↓reduceIte, Nat.reduceLT, Nat.reduceLeDiff, Nat.reduceEqDiff, Nat.reduceAdd, Nat.reduceMul, Nat.reduceSub, Nat.reduceBEq, reduceCtorEq, Int.reduceEq, Int.reduceLT, Int.reduceLE, Int.reduceNeg, Int.reduceToNat, nv, f8, f11, f12]
      rfl
    clear hO hrG f8 f11 f12 f51 f52
    rintro m f G ⟨i, ev, rfl, hi, f8, f11, f12, f66, f67, f68, hO⟩
    unfold L15_2
    by_cases hlt : i < S.N
    · have hltZ : (i : Int) < (S.N : Int) := by omega
      have hi0 : (0 : Int) ≤ (i : Int) := by omega
      have hw1 : IntKind.i64.wrap ((i : Int) + 1) = ((i + 1 : Nat) : Int) := IntWalk.i64_in _ (by have : S.N ≤ 65536 := ok3.N; omega)
      obtain ⟨tb, to, tc, tx, htv2, htc, htx, htxi⟩ := h3.ptr hlt
      rw [httv] at htv2
      simp only [Value.slice.injEq, true_and] at htv2
      obtain ⟨rfl, rfl⟩ := htv2
      have htxG := hO.ext.of h3.wf htx
      have hcell := hO.cell
      have hnbG := hO.ext.wf.1
      obtain ⟨ea, ec, rfl⟩ := hO.ends.sl
      simp (config := { implicitDefEqProofs := false, maxDischargeDepth := 6, maxSteps := 1000000 }) only [go_sem, ↓reduceIte, Nat.reduceLT, Nat.reduceLeDiff, Nat.reduceEqDiff, Nat.reduceAdd, Nat.reduceMul, Nat.reduceSub, Nat.reduceBEq, reduceCtorEq, Int.reduceEq, Int.reduceLT, Int.reduceLE, Int.reduceNeg, Int.reduceToNat, f8, f11, f12, f66, f67, f68, nv, hltZ, hi0, htc, htxG, htxi, hcell, outB]
      refine Wk_w_call rfl ?_
      simp (config := { implicitDefEqProofs := false, maxDischargeDepth := 6, maxSteps := 1000000 }) only [go_sem, ↓reduceIte, Nat.reduceLT, Nat.reduceLeDiff, Nat.reduceEqDiff, Nat.reduceAdd, Nat.reduceMul, Nat.reduceSub, Nat.reduceBEq, reduceCtorEq, Int.reduceEq, Int.reduceLT, Int.reduceLE, Int.reduceNeg, Int.reduceToNat, f8, f11, f12, f66, f67, f68, nv]
      have hEb := Ext.bump (Ext.refl hO.ext.wf) 15
      refine CW_mono _ (how_R (h3.ext (hO.ext.trans hEb)) ok3.vs hlt) ?_
      rintro _ G1 ⟨rfl, hE1'⟩
      have hO1 := hO.of (hEb.trans hE1')
      have hcell1 := hO1.cell
      have hnb1' := hO1.ext.wf.1
      simp (config := { implicitDefEqProofs := false, maxDischargeDepth := 6, maxSteps := 1000000 }) only [go_sem, ↓reduceIte, Nat.reduceLT, Nat.reduceLeDiff, Nat.reduceEqDiff, Nat.reduceAdd, Nat.reduceMul, Nat.reduceSub, Nat.reduceBEq, reduceCtorEq, Int.reduceEq, Int.reduceLT, Int.reduceLE, Int.reduceNeg, Int.reduceToNat, f8, f11, f12]
      refine cK_some ?_ ?_
      · simp (config := { implicitDefEqProofs := false, maxDischargeDepth := 6, maxSteps := 1000000 }) only [go_sem, ↓reduceIte, Nat.reduceLT, Nat.reduceLeDiff, Nat.reduceEqDiff, Nat.reduceAdd, Nat.reduceMul, Nat.reduceSub, Nat.reduceBEq, reduceCtorEq, Int.reduceEq, Int.reduceLT, Int.reduceLE, Int.reduceNeg, Int.reduceToNat, reK, f8, f11, f12, hcell1, outB]
      have htk1 := hO1.ext.of h3.wf (h3.task i hlt)
      have htkb := (hO.ext.trans hEb).of h3.wf (h3.task i hlt)
      simp (config := { implicitDefEqProofs := false, maxDischargeDepth := 6, maxSteps := 1000000 }) only [go_sem, ↓reduceIte, Nat.reduceLT, Nat.reduceLeDiff, Nat.reduceEqDiff, Nat.reduceAdd, Nat.reduceMul, Nat.reduceSub, Nat.reduceBEq, reduceCtorEq, Int.reduceEq, Int.reduceLT, Int.reduceLE, Int.reduceNeg, Int.reduceToNat, f8, f11, f12, hcell1, outB, htk1]
      refine wrK_some ?_ ?_
      · simp (config := { implicitDefEqProofs := false, maxDischargeDepth := 6, maxSteps := 1000000 }) only [go_sem, ↓reduceIte, Nat.reduceLT, Nat.reduceLeDiff, Nat.reduceEqDiff, Nat.reduceAdd, Nat.reduceMul, Nat.reduceSub, Nat.reduceBEq, reduceCtorEq, Int.reduceEq, Int.reduceLT, Int.reduceLE, Int.reduceNeg, Int.reduceToNat, hsK, f8, f11, f12, htkb]
      simp (config := { implicitDefEqProofs := false, maxDischargeDepth := 6, maxSteps := 1000000 }) only [go_sem, ↓reduceIte, Nat.reduceLT, Nat.reduceLeDiff, Nat.reduceEqDiff, Nat.reduceAdd, Nat.reduceMul, Nat.reduceSub, Nat.reduceBEq, reduceCtorEq, Int.reduceEq, Int.reduceLT, Int.reduceLE, Int.reduceNeg, Int.reduceToNat, f8, f11, f12, hcell1, outB, htk1]
      refine Wk_w_c rfl rfl ?_
      simp (config := { implicitDefEqProofs := false, maxDischargeDepth := 6, maxSteps := 1000000 }) only [go_sem, ↓reduceIte, Nat.reduceLT, Nat.reduceLeDiff, Nat.reduceEqDiff, Nat.reduceAdd, Nat.reduceMul, Nat.reduceSub, Nat.reduceBEq, reduceCtorEq, Int.reduceEq, Int.reduceLT, Int.reduceLE, Int.reduceNeg, Int.reduceToNat, f8, f11, f12, hcell1, outB]
      have hle1 : G.next + 15 ≤ G1.next := hE1'.le
      have hE2' := (hEb.trans hE1').set (b := G.next + 10) (by omega) (by omega) (⟨49, 0, false, [iv (howS S i), iv (S.tk i).n]⟩ : Blk)
      have hO2 := hO.of hE2'
      have hN3 := ok3.N
      obtain ⟨G3, ha3, hE3', hes3, hn3, hk3⟩ := appO (bytes := 16) (nb := G.next + 10) (x := ⟨49, 0, false, [iv (howS S i), iv (S.tk i).n]⟩) (vs := [iv (howS S i), iv (S.tk i).n]) hO2.ext hO2.ends (get_set_eq (by omega)) rfl rfl (by omega) rfl (by omega) (by omega)
      refine cK_vh ha3 ?_
      have hcell3 := hk3 _ _ hO2.cell (.inl rfl)
      have hbo : base0 ≤ H3.next + 15 := by omega
      simp only [next_set] at ha3 hes3 hn3
      simp (config := { implicitDefEqProofs := false, maxDischargeDepth := 6, maxSteps := 1000000 }) only [go_sem, ↓reduceIte, Nat.reduceLT, Nat.reduceLeDiff, Nat.reduceEqDiff, Nat.reduceAdd, Nat.reduceMul, Nat.reduceSub, Nat.reduceBEq, reduceCtorEq, Int.reduceEq, Int.reduceLT, Int.reduceLE, Int.reduceNeg, Int.reduceToNat, f8, f11, f12, hcell3, outB]
      refine Wk_w_c rfl rfl ?_
      simp (config := { implicitDefEqProofs := false, maxDischargeDepth := 6, maxSteps := 1000000 }) only [go_sem, ↓reduceIte, Nat.reduceLT, Nat.reduceLeDiff, Nat.reduceEqDiff, Nat.reduceAdd, Nat.reduceMul, Nat.reduceSub, Nat.reduceBEq, reduceCtorEq, Int.reduceEq, Int.reduceLT, Int.reduceLE, Int.reduceNeg, Int.reduceToNat, f8, f11, f12, f68, nv, hcell3, outB, hbo, hw1]
      have hE4' := hE3'.set (b := H3.next + 15) (by omega) (hE3'.wf.lt hcell3) (outB S.trace.length (.slice tra S.trace.length trc) (.slice (some ⟨H3.next + 18, 0, none⟩) 8 openCap) (.slice (some ⟨G1.next, 0, none⟩) (i + 1) openCap) qs)
      have keep : ∀ {es ty n : Nat} {v : Value} {cs : List Value}, ty ≠ 49 → ty ≠ 33 → OwnL (fun b => H3.next ≤ b) (G1.set (G.next + 10) ⟨49, 0, false, [iv (howS S i), iv (S.tk i).n]⟩) es ty v n cs →
          OwnL (fun b => H3.next ≤ b) (G3.set (H3.next + 15) (outB S.trace.length (.slice tra S.trace.length trc) (.slice (some ⟨H3.next + 18, 0, none⟩) 8 openCap) (.slice (some ⟨G1.next, 0, none⟩) (i + 1) openCap) qs)) es ty v n cs := by
        intro es ty n v cs h29 h33 ho
        refine ho.frameO fun b x hb hg hx => ⟨hb, ?_⟩
        have hg3 := hk3 _ _ hg (.inr (by rw [hx.2]; exact h29))
        rw [get_set_ne]
        · exact hg3
        · intro e; subst e; rw [hcell3] at hg3; cases hg3; cases hx.1
      refine ⟨S.N - (i + 1), by omega, i + 1, .slice (some ⟨G1.next, 0, none⟩) (i + 1) openCap, rfl, by omega, ?_, ?_, ?_, ?_, ?_, ?_, hE4', by omega, get_set_eq hbo, keep (by omega) (by omega) hO2.regs, keep (by omega) (by omega) hO2.qs, fun j hj => keep (by omega) (by omega) (hO2.q j hj), ?_⟩
      · simp (config := { implicitDefEqProofs := false, maxDischargeDepth := 6, maxSteps := 1000000 }) only [go_sem, ↓reduceIte, Nat.reduceLT, Nat.reduceLeDiff, Nat.reduceEqDiff, Nat.reduceAdd, Nat.reduceMul, Nat.reduceSub, Nat.reduceBEq, reduceCtorEq, Int.reduceEq, Int.reduceLT, Int.reduceLE, Int.reduceNeg, Int.reduceToNat, f8]
      · simp (config := { implicitDefEqProofs := false, maxDischargeDepth := 6, maxSteps := 1000000 }) only [go_sem, ↓reduceIte, Nat.reduceLT, Nat.reduceLeDiff, Nat.reduceEqDiff, Nat.reduceAdd, Nat.reduceMul, Nat.reduceSub, Nat.reduceBEq, reduceCtorEq, Int.reduceEq, Int.reduceLT, Int.reduceLE, Int.reduceNeg, Int.reduceToNat, f11]
      · simp (config := { implicitDefEqProofs := false, maxDischargeDepth := 6, maxSteps := 1000000 }) only [go_sem, ↓reduceIte, Nat.reduceLT, Nat.reduceLeDiff, Nat.reduceEqDiff, Nat.reduceAdd, Nat.reduceMul, Nat.reduceSub, Nat.reduceBEq, reduceCtorEq, Int.reduceEq, Int.reduceLT, Int.reduceLE, Int.reduceNeg, Int.reduceToNat, f12]
      · simp (config := { implicitDefEqProofs := false, maxDischargeDepth := 6, maxSteps := 1000000 }) only [go_sem, ↓reduceIte, Nat.reduceLT, Nat.reduceLeDiff, Nat.reduceEqDiff, Nat.reduceAdd, Nat.reduceMul, Nat.reduceSub, Nat.reduceBEq, reduceCtorEq, Int.reduceEq, Int.reduceLT, Int.reduceLE, Int.reduceNeg, Int.reduceToNat, f66]
      · simp (config := { implicitDefEqProofs := false, maxDischargeDepth := 6, maxSteps := 1000000 }) only [go_sem, ↓reduceIte, Nat.reduceLT, Nat.reduceLeDiff, Nat.reduceEqDiff, Nat.reduceAdd, Nat.reduceMul, Nat.reduceSub, Nat.reduceBEq, reduceCtorEq, Int.reduceEq, Int.reduceLT, Int.reduceLE, Int.reduceNeg, Int.reduceToNat, f67, nv]
      · simp (config := { implicitDefEqProofs := false, maxDischargeDepth := 6, maxSteps := 1000000 }) only [go_sem, ↓reduceIte, Nat.reduceLT, Nat.reduceLeDiff, Nat.reduceEqDiff, Nat.reduceAdd, Nat.reduceMul, Nat.reduceSub, Nat.reduceBEq, reduceCtorEq, Int.reduceEq, Int.reduceLT, Int.reduceLE, Int.reduceNeg, Int.reduceToNat, nv]
      · rw [List.range_succ, List.flatMap_append]
        simp only [List.flatMap_cons, List.flatMap_nil, List.append_nil]
        refine hes3.frameO fun b x hb hg hx => ⟨hb, ?_⟩
        rw [get_set_ne]
        · exact hg
        · intro e; subst e; rw [hcell3] at hg; cases hg; cases hx.1
    · have hltZ : ¬ (i : Int) < (S.N : Int) := by omega
      obtain rfl : i = S.N := by omega
      have hcell := hO.cell
      have hnbG := hO.ext.wf.1
      have hcG := hO.ext.of h3.wf hc3
      obtain ⟨ea, ec, rfl⟩ := hO.ends.sl
      obtain ⟨sa, sc, rfl⟩ := hO.qs.sl
      simp (config := { implicitDefEqProofs := false, maxDischargeDepth := 6, maxSteps := 1000000 }) only [go_sem, ↓reduceIte, Nat.reduceLT, Nat.reduceLeDiff, Nat.reduceEqDiff, Nat.reduceAdd, Nat.reduceMul, Nat.reduceSub, Nat.reduceBEq, reduceCtorEq, Int.reduceEq, Int.reduceLT, Int.reduceLE, Int.reduceNeg, Int.reduceToNat, f8, f11, f12, f66, f67, f68, nv, hltZ, hcell, outB, loads_eq, hcG, hnb]
      have hltF := (hO.ext.wf.lt hcG)
      have hltH3 := h3.wf.lt hc3
      have hEf := (hE3.trans hO.ext).set (b := H.next) (Nat.le_refl _) hltF (outB S.trace.length (.slice tra S.trace.length trc) (.slice (some ⟨H3.next + 18, 0, none⟩) 8 openCap) (.slice ea S.N ec) (.slice sa 4 sc))
      have keep : ∀ {es ty n : Nat} {v : Value} {cs : List Value}, OwnL (fun b => H3.next ≤ b) G es ty v n cs →
          OwnL (fun b => H.next ≤ b) (G.set H.next (outB S.trace.length (.slice tra S.trace.length trc) (.slice (some ⟨H3.next + 18, 0, none⟩) 8 openCap) (.slice ea S.N ec) (.slice sa 4 sc))) es ty v n cs := by
        intro es ty n v cs ho
        refine ho.frame fun b x hb hg => ⟨?_, ?_⟩
        · have hb : H3.next ≤ b := hb
          show H.next ≤ b
          omega
        · have hb : H3.next ≤ b := hb
          rw [get_set_ne (by omega)]; exact hg
      refine ⟨hEf, fun h => absurd h0 h, fun _ => ?_⟩
      rw [hS]
      refine ⟨_, _, _, _, qv, rfl, ?_, keep hO.regs, keep hO.ends, keep hO.qs, fun j hj => keep (hO.q j hj)⟩
      have hT := h3.trace (by simp)
      rw [htr] at hT
      refine hT.frame fun b x hb hg => ⟨(hlo b _ hb).1, ?_⟩
      rw [get_set_ne (hlo b _ hb).2]
      exact hO.ext.of h3.wf hg
end Go.Am.T
