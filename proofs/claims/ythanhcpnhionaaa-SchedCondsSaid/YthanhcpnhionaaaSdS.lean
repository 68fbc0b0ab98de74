/- The walk of the law SchedConds. Conditions: those of each theorem. -/
import Derived.Test.YthanhcpnhionaaaSdU
set_option linter.all false
set_option linter.unusedSimpArgs false
set_option linter.unusedVariables false
namespace Go.Am.T
open Go Go.Am Go.Proofs.Ythanhcpnhionaaa Go.Proofs

/- tasks that a law has made: each as it was written, or grown -/
structure MadeL (H0 H : Heap) (tv : Value) (ts : List (List Act)) (av : Nat → Value) : Prop where
  ext : Ext H0 H
  out : OwnL (fun b => H0.next ≤ b) H 1 45 tv ts.length ((List.range ts.length).map av)
  acts : ∀ i (h : i < ts.length), LstL H0 H (av i) ts[i]
theorem MadeL.tasks {H0 H : Heap} {tv : Value} {ts : List (List Act)} {av : Nat → Value} (h : MadeL H0 H tv ts av) : TasksAt H tv ts av :=
  ⟨h.out.rd, fun i hi => (h.acts i hi).acts⟩
theorem MadeL.nil {H0 H : Heap} {av : Nat → Value} (h : Ext H0 H) : MadeL H0 H (.slice none 0 0) [] av := ⟨h, .inl ⟨rfl, rfl, rfl⟩, fun i hi => absurd hi (by simp)⟩
theorem MadeL.of {H0 H H' : Heap} {tv : Value} {ts : List (List Act)} {av : Nat → Value} (h : MadeL H0 H tv ts av) (e : Ext H H') : MadeL H0 H' tv ts av :=
  ⟨h.ext.trans e, h.out.frame fun b x hb hg => ⟨hb, e.of h.ext.wf hg⟩, fun i hi => (h.acts i hi).of h.ext.wf e⟩
theorem LstL.frameO {H0 H H' : Heap} {v : Value} {l : List Act} (h : LstL H0 H v l) (k : ∀ b x, H.get b = some x → x.opn = false ∨ x.ty ≠ 45 → H'.get b = some x) : LstL H0 H' v l := by
  rcases h with ⟨b, h1, h2, h3⟩ | h
  · exact .inl ⟨b, h1, k b _ h2 (.inl rfl), h3⟩
  · exact .inr (h.frameO fun b x hb hg hx => ⟨hb, k b x hg (.inr (by rw [hx.2]; decide))⟩)
theorem MadeL.push {H0 H : Heap} {a : Option Addr} {c : Nat} {ts : List (List Act)} {av : Nat → Value} (h : MadeL H0 H (.slice a ts.length c) ts av) {l : List Act} {lv : Value} (hl : LstL H0 H lv l) {nb : Nat}
    (hn : H.get nb = some ⟨45, 0, false, [lv]⟩) (hb : ts.length ≤ 65536) :
    ∃ H6 tv', appS H 45 1 24 a ts.length c (.slice (some ⟨nb, 0, none⟩) 1 1) = some (tv', H6) ∧ MadeL H0 H6 tv' (ts ++ [l]) (upd av ts.length lv) := by
  obtain ⟨la, lc, rfl⟩ := hl.sl
  obtain ⟨H6, h1, h2, h3, h4, h5⟩ := appO (bytes := 24) h.ext h.out hn rfl rfl (by omega) rfl (by omega) (by omega)
  refine ⟨H6, _, h1, h2, ?_, ?_⟩
  · have e : (List.range (ts ++ [l]).length).map (upd av ts.length (.slice la l.length lc)) = (List.range ts.length).map av ++ [.slice la l.length lc] := by
      rw [List.length_append]
      show (List.range (ts.length + 1)).map _ = _
      rw [List.range_succ, List.map_append]
      have : (List.range ts.length).map (upd av ts.length (.slice la l.length lc)) = (List.range ts.length).map av := by
        apply List.map_congr_left
        intro j hj
        exact upd_ne (by have := List.mem_range.1 hj; omega)
      rw [this]
      simp [upd_same]
    rw [e, List.length_append]
    exact h3
  · intro i hi
    by_cases e : i = ts.length
    · subst e
      rw [upd_same]
      simp only [List.getElem_append_right (Nat.le_refl _), Nat.sub_self, List.getElem_cons_zero]
      exact hl.frameO h5
    · have hi' : i < ts.length := by simp at hi; omega
      rw [upd_ne e]
      simp only [List.getElem_append_left hi']
      exact (h.acts i hi').frameO h5
theorem OwnL.lst {H0 G H : Heap} {v : Value} {l : List Act} (h : OwnL (fun b => G.next ≤ b) H 4 47 v l.length (actC l)) (e : Ext H0 G) : LstL H0 H v l :=
  .inr (h.frame fun b x hb hg => ⟨Nat.le_trans e.le hb, hg⟩)

def wtL : List Act := [⟨1, 0, 0, 0⟩, ⟨6, 1, 0, 1⟩, ⟨3, 2, 0, 0⟩, ⟨8, 3, 0, 1⟩, ⟨2, 0, 0, 0⟩]
def wakA (cast : Bool) : Act := if cast then ⟨5, 2, 0, 0⟩ else ⟨4, 2, 0, 0⟩
def wkP (cast : Bool) (n k : Nat) : List Act := List.replicate n ⟨7, 1, 0, 0⟩ ++ [⟨1, 0, 0, 0⟩] ++ List.replicate k (wakA cast)
def wkE (cast : Bool) (n : Nat) : Nat := if cast then 1 else n
def wkL (cast : Bool) (n : Nat) : List Act := wkP cast n (wkE cast n) ++ [⟨2, 0, 0, 0⟩]
theorem wkP_len (cast : Bool) (n k : Nat) : (wkP cast n k).length = n + 1 + k := by simp [wkP]; omega
theorem wkP_succ (cast : Bool) (n k : Nat) : wkP cast n (k + 1) = wkP cast n k ++ [wakA cast] := by
  unfold wkP; rw [List.replicate_succ', ← List.append_assoc]
def cdT (cast : Bool) (n : Nat) : List (List Act) := List.replicate n wtL ++ [wkL cast n]
structure CondsOk (cast : Bool) (n : Nat) (picks : List Int) : Prop where
  ask : askedP (cdT cast n) 16 picks 65536 = 0
  reg : (runM 65536 (S0 (cdT cast n) 16) picks).regs 3 = (n : Int)
  done : ∀ i, i ≤ n → howS (runM 65536 (S0 (cdT cast n) 16) picks) i = 1

theorem conds_W (old : Nat → Option Blk) (hw : WF ⟨old, .nil, base0⟩) {n : Int} {cast : Bool} {pv : Value} {picks : List Int} (hp : RdI ⟨old, .nil, base0⟩ pv (picks.map iv))
    (pure : ∀ n : Nat, 1 ≤ n → n ≤ 15 → picks.length ≤ 3000 → nonneg picks → CondsOk cast n picks) :
    CW Try.prog 7 #[.int .i64 n, .bool cast, pv] ⟨old, .nil, base0⟩ fun x _ => x = .ret (.bool true) := by
  refine CW_k (n := 138) if7 rfl ?_
  unfold C7
  obtain ⟨pa, pc, hpv, _⟩ := id hp
  simp only [List.length_map] at hpv
  simp (config := { implicitDefEqProofs := false, maxDischargeDepth := 6, maxSteps := 1000000 }) only [go_sem, ↓reduceIte, Nat.reduceLT, Nat.reduceLeDiff, Nat.reduceEqDiff, Nat.reduceAdd, Nat.reduceMul, Nat.reduceSub, Nat.reduceBEq, reduceCtorEq, Int.reduceEq, Int.reduceLT, Int.reduceLE, Int.reduceNeg, Int.reduceToNat, ]
  refine CW_mono _ (begun_law old) ?_
  rintro _ H0 ⟨rfl, hE0⟩
  simp (config := { implicitDefEqProofs := false, maxDischargeDepth := 6, maxSteps := 1000000 }) only [go_sem, ↓reduceIte, Nat.reduceLT, Nat.reduceLeDiff, Nat.reduceEqDiff, Nat.reduceAdd, Nat.reduceMul, Nat.reduceSub, Nat.reduceBEq, reduceCtorEq, Int.reduceEq, Int.reduceLT, Int.reduceLE, Int.reduceNeg, Int.reduceToNat, ]
  by_cases c1 : n < 1
  · simp (config := { implicitDefEqProofs := false, maxDischargeDepth := 6, maxSteps := 1000000 }) only [go_sem, ↓reduceIte, Nat.reduceLT, Nat.reduceLeDiff, Nat.reduceEqDiff, Nat.reduceAdd, Nat.reduceMul, Nat.reduceSub, Nat.reduceBEq, reduceCtorEq, Int.reduceEq, Int.reduceLT, Int.reduceLE, Int.reduceNeg, Int.reduceToNat, c1]
  by_cases c2 : 15 < n
  · simp (config := { implicitDefEqProofs := false, maxDischargeDepth := 6, maxSteps := 1000000 }) only [go_sem, ↓reduceIte, Nat.reduceLT, Nat.reduceLeDiff, Nat.reduceEqDiff, Nat.reduceAdd, Nat.reduceMul, Nat.reduceSub, Nat.reduceBEq, reduceCtorEq, Int.reduceEq, Int.reduceLT, Int.reduceLE, Int.reduceNeg, Int.reduceToNat, c1, c2]
  by_cases c5 : 3000 < picks.length
  · have c5Z : (3000 : Int) < (picks.length : Int) := by omega
    simp (config := { implicitDefEqProofs := false, maxDischargeDepth := 6, maxSteps := 1000000 }) only [go_sem, ↓reduceIte, Nat.reduceLT, Nat.reduceLeDiff, Nat.reduceEqDiff, Nat.reduceAdd, Nat.reduceMul, Nat.reduceSub, Nat.reduceBEq, reduceCtorEq, Int.reduceEq, Int.reduceLT, Int.reduceLE, Int.reduceNeg, Int.reduceToNat, c1, c2, hpv, goInt, c5Z]
  have c5Z : ¬ (3000 : Int) < (picks.length : Int) := by omega
  simp (config := { implicitDefEqProofs := false, maxDischargeDepth := 6, maxSteps := 1000000 }) only [go_sem, ↓reduceIte, Nat.reduceLT, Nat.reduceLeDiff, Nat.reduceEqDiff, Nat.reduceAdd, Nat.reduceMul, Nat.reduceSub, Nat.reduceBEq, reduceCtorEq, Int.reduceEq, Int.reduceLT, Int.reduceLE, Int.reduceNeg, Int.reduceToNat, c1, c2, hpv, goInt, c5Z]
  obtain ⟨n, rfl⟩ : ∃ k : Nat, n = (k : Int) := ⟨n.toNat, by omega⟩
  have hw0 := hE0.wf
  have hp0 : RdI H0 pv (picks.map iv) := hp.of fun b x hb => hE0.of hw hb
  refine Wk_loopF (fun m f G => ∃ k, m = picks.length - k ∧ k ≤ picks.length ∧ f.get 0 = some (nv n) ∧ f.get 1 = some (.bool cast) ∧ f.get 2 = some (.slice pa picks.length pc) ∧ f.get 7 = some (nv k) ∧ G = H0 ∧ ∀ i (h : i < picks.length), i < k → 0 ≤ picks[i]) picks.length ?_ ?_
  · refine ⟨0, by omega, by omega, ?_, ?_, ?_, ?_, rfl, by omega⟩
    all_goals simp (config := { implicitDefEqProofs := false, maxDischargeDepth := 6, maxSteps := 1000000 }) only [go_sem, ↓reduceIte, Nat.reduceLT, Nat.reduceLeDiff, Nat.reduceEqDiff, Nat.reduceAdd, Nat.reduceMul, Nat.reduceSub, Nat.reduceBEq, reduceCtorEq, Int.reduceEq, Int.reduceLT, Int.reduceLE, Int.reduceNeg, Int.reduceToNat, nv]
    rfl
  rintro m f G ⟨k, rfl, hk, f0, f1, f2, f7, hG, hall⟩
  subst G
  unfold L7_1
  by_cases hlt : k < picks.length
  · have hltZ : (k : Int) < (picks.length : Int) := by omega
    have hk0 : (0 : Int) ≤ (k : Int) := by omega
    have hw1 : IntKind.i64.wrap ((k : Int) + 1) = ((k + 1 : Nat) : Int) := IntWalk.i64_in _ (by omega)
    obtain ⟨b, o, c, x, hv, hc, hx, hxk⟩ := hp0.at_ (i := k) (by simpa using hlt)
    rw [hpv] at hv
    simp only [Value.slice.injEq, List.length_map, true_and] at hv
    obtain ⟨rfl, rfl⟩ := hv
    simp only [List.getElem_map, iv] at hxk
    by_cases hn : picks[k] < 0
    · simp (config := { implicitDefEqProofs := false, maxDischargeDepth := 6, maxSteps := 1000000 }) only [go_sem, ↓reduceIte, Nat.reduceLT, Nat.reduceLeDiff, Nat.reduceEqDiff, Nat.reduceAdd, Nat.reduceMul, Nat.reduceSub, Nat.reduceBEq, reduceCtorEq, Int.reduceEq, Int.reduceLT, Int.reduceLE, Int.reduceNeg, Int.reduceToNat, f0, f1, f2, f7, nv, hltZ, hk0, hc, hx, hxk, hn, goInt]
    · simp (config := { implicitDefEqProofs := false, maxDischargeDepth := 6, maxSteps := 1000000 }) only [go_sem, ↓reduceIte, Nat.reduceLT, Nat.reduceLeDiff, Nat.reduceEqDiff, Nat.reduceAdd, Nat.reduceMul, Nat.reduceSub, Nat.reduceBEq, reduceCtorEq, Int.reduceEq, Int.reduceLT, Int.reduceLE, Int.reduceNeg, Int.reduceToNat, f0, f1, f2, f7, nv, hltZ, hk0, hc, hx, hxk, hn, goInt, hw1]
      refine ⟨picks.length - (k + 1), by omega, k + 1, rfl, by omega, ?_, ?_, ?_, ?_, rfl, ?_⟩
      · simp (config := { implicitDefEqProofs := false, maxDischargeDepth := 6, maxSteps := 1000000 }) only [go_sem, ↓reduceIte, Nat.reduceLT, Nat.reduceLeDiff, Nat.reduceEqDiff, Nat.reduceAdd, Nat.reduceMul, Nat.reduceSub, Nat.reduceBEq, reduceCtorEq, Int.reduceEq, Int.reduceLT, Int.reduceLE, Int.reduceNeg, Int.reduceToNat, f0, nv]
      · simp (config := { implicitDefEqProofs := false, maxDischargeDepth := 6, maxSteps := 1000000 }) only [go_sem, ↓reduceIte, Nat.reduceLT, Nat.reduceLeDiff, Nat.reduceEqDiff, Nat.reduceAdd, Nat.reduceMul, Nat.reduceSub, Nat.reduceBEq, reduceCtorEq, Int.reduceEq, Int.reduceLT, Int.reduceLE, Int.reduceNeg, Int.reduceToNat, f1]
      · simp (config := { implicitDefEqProofs := false, maxDischargeDepth := 6, maxSteps := 1000000 }) only [go_sem, ↓reduceIte, Nat.reduceLT, Nat.reduceLeDiff, Nat.reduceEqDiff, Nat.reduceAdd, Nat.reduceMul, Nat.reduceSub, Nat.reduceBEq, reduceCtorEq, Int.reduceEq, Int.reduceLT, Int.reduceLE, Int.reduceNeg, Int.reduceToNat, f2]
      · simp (config := { implicitDefEqProofs := false, maxDischargeDepth := 6, maxSteps := 1000000 }) only [go_sem, ↓reduceIte, Nat.reduceLT, Nat.reduceLeDiff, Nat.reduceEqDiff, Nat.reduceAdd, Nat.reduceMul, Nat.reduceSub, Nat.reduceBEq, reduceCtorEq, Int.reduceEq, Int.reduceLT, Int.reduceLE, Int.reduceNeg, Int.reduceToNat, nv]
      · intro i h hi
        by_cases e : i = k
        · subst e; omega
        · exact hall i h (by omega)
  have hltZ : ¬ (k : Int) < (picks.length : Int) := by omega
  obtain rfl : k = picks.length := by omega
  have hnn : nonneg picks := by
    intro p hpm
    obtain ⟨i, hi, rfl⟩ := List.mem_iff_getElem.1 hpm
    exact hall i hi hi
  have hOk := pure n (by omega) (by omega) (by omega) hnn
  simp (config := { implicitDefEqProofs := false, maxDischargeDepth := 6, maxSteps := 1000000 }) only [go_sem, ↓reduceIte, Nat.reduceLT, Nat.reduceLeDiff, Nat.reduceEqDiff, Nat.reduceAdd, Nat.reduceMul, Nat.reduceSub, Nat.reduceBEq, reduceCtorEq, Int.reduceEq, Int.reduceLT, Int.reduceLE, Int.reduceNeg, Int.reduceToNat, f0, f1, f2, f7, nv, hltZ, goInt]
  refine Wk_loopF (fun m f G => ∃ k tv av, m = n - k ∧ k ≤ n ∧ f.get 0 = some (nv n) ∧ f.get 1 = some (.bool cast) ∧ f.get 2 = some (.slice pa picks.length pc) ∧ f.get 8 = some tv ∧ f.get 9 = some (nv k) ∧ MadeL H0 G tv (List.replicate k wtL) av) n ?_ ?_
  · refine ⟨0, .slice none 0 0, fun _ => .slice none 0 0, by omega, by omega, ?_, ?_, ?_, ?_, ?_, MadeL.nil (Ext.refl hw0)⟩
    all_goals simp (config := { implicitDefEqProofs := false, maxDischargeDepth := 6, maxSteps := 1000000 }) only [go_sem, ↓reduceIte, Nat.reduceLT, Nat.reduceLeDiff, Nat.reduceEqDiff, Nat.reduceAdd, Nat.reduceMul, Nat.reduceSub, Nat.reduceBEq, reduceCtorEq, Int.reduceEq, Int.reduceLT, Int.reduceLE, Int.reduceNeg, Int.reduceToNat, f0, f1, f2, nv]
    rfl
  clear f0 f1 f2 f7 hall
  rintro m f G ⟨k, tv, av, rfl, hk, f0, f1, f2, f8, f9, hM⟩
  unfold L7_2
  by_cases hlt2 : k < n
  · have hltZ2 : (k : Int) < (n : Int) := by omega
    have hw2 : IntKind.i64.wrap ((k : Int) + 1) = ((k + 1 : Nat) : Int) := IntWalk.i64_in _ (by omega)
    obtain ⟨ta, tc, rfl⟩ := hM.out.sl
    have hnbG := hM.ext.wf.1
    simp (config := { implicitDefEqProofs := false, maxDischargeDepth := 6, maxSteps := 1000000 }) only [go_sem, ↓reduceIte, Nat.reduceLT, Nat.reduceLeDiff, Nat.reduceEqDiff, Nat.reduceAdd, Nat.reduceMul, Nat.reduceSub, Nat.reduceBEq, reduceCtorEq, Int.reduceEq, Int.reduceLT, Int.reduceLE, Int.reduceNeg, Int.reduceToNat, f0, f1, f2, f8, f9, nv, hltZ2, List.length_replicate]
    have hEa := ((Ext.refl hM.ext.wf).alloc (⟨47, 0, false, actC wtL⟩ : Blk))
    have hEb := hEa.alloc (⟨45, 0, false, [.slice (some ⟨G.next, 0, none⟩) 5 5]⟩ : Blk)
    have hlit : LstL H0 ((G.alloc (⟨47, 0, false, actC wtL⟩ : Blk)).alloc (⟨45, 0, false, [.slice (some ⟨G.next, 0, none⟩) 5 5]⟩ : Blk)) (.slice (some ⟨G.next, 0, none⟩) 5 5) wtL :=
      .inl ⟨G.next, rfl, ((Ext.refl hEa.wf).alloc _).of hEa.wf (get_alloc_eq hnbG), by simp [wtL]⟩
    obtain ⟨G6, tv6, ha6, hM6⟩ := (hM.of hEb).push (nb := G.next + 1) hlit (get_alloc_eq hEa.wf.1) (by rw [List.length_replicate]; omega)
    rw [List.length_replicate] at ha6
    refine Wk_vh ha6 ?_
    simp (config := { implicitDefEqProofs := false, maxDischargeDepth := 6, maxSteps := 1000000 }) only [go_sem, ↓reduceIte, Nat.reduceLT, Nat.reduceLeDiff, Nat.reduceEqDiff, Nat.reduceAdd, Nat.reduceMul, Nat.reduceSub, Nat.reduceBEq, reduceCtorEq, Int.reduceEq, Int.reduceLT, Int.reduceLE, Int.reduceNeg, Int.reduceToNat, f0, f1, f2, f8, f9, nv, hw2]
    rw [← List.replicate_succ'] at hM6
    refine ⟨n - (k + 1), by omega, k + 1, tv6, _, rfl, by omega, ?_, ?_, ?_, ?_, ?_, hM6⟩
    · simp (config := { implicitDefEqProofs := false, maxDischargeDepth := 6, maxSteps := 1000000 }) only [go_sem, ↓reduceIte, Nat.reduceLT, Nat.reduceLeDiff, Nat.reduceEqDiff, Nat.reduceAdd, Nat.reduceMul, Nat.reduceSub, Nat.reduceBEq, reduceCtorEq, Int.reduceEq, Int.reduceLT, Int.reduceLE, Int.reduceNeg, Int.reduceToNat, f0, nv]
    · simp (config := { implicitDefEqProofs := false, maxDischargeDepth := 6, maxSteps := 1000000 }) only [go_sem, ↓reduceIte, Nat.reduceLT, Nat.reduceLeDiff, Nat.reduceEqDiff, Nat.reduceAdd, Nat.reduceMul, Nat.reduceSub, Nat.reduceBEq, reduceCtorEq, Int.reduceEq, Int.reduceLT, Int.reduceLE, Int.reduceNeg, Int.reduceToNat, f1]
    · simp (config := { implicitDefEqProofs := false, maxDischargeDepth := 6, maxSteps := 1000000 }) only [go_sem, ↓reduceIte, Nat.reduceLT, Nat.reduceLeDiff, Nat.reduceEqDiff, Nat.reduceAdd, Nat.reduceMul, Nat.reduceSub, Nat.reduceBEq, reduceCtorEq, Int.reduceEq, Int.reduceLT, Int.reduceLE, Int.reduceNeg, Int.reduceToNat, f2]
    · simp (config := { implicitDefEqProofs := false, maxDischargeDepth := 6, maxSteps := 1000000 }) only [go_sem, ↓reduceIte, Nat.reduceLT, Nat.reduceLeDiff, Nat.reduceEqDiff, Nat.reduceAdd, Nat.reduceMul, Nat.reduceSub, Nat.reduceBEq, reduceCtorEq, Int.reduceEq, Int.reduceLT, Int.reduceLE, Int.reduceNeg, Int.reduceToNat, ]
    · simp (config := { implicitDefEqProofs := false, maxDischargeDepth := 6, maxSteps := 1000000 }) only [go_sem, ↓reduceIte, Nat.reduceLT, Nat.reduceLeDiff, Nat.reduceEqDiff, Nat.reduceAdd, Nat.reduceMul, Nat.reduceSub, Nat.reduceBEq, reduceCtorEq, Int.reduceEq, Int.reduceLT, Int.reduceLE, Int.reduceNeg, Int.reduceToNat, nv]
  have hltZ2 : ¬ (k : Int) < (n : Int) := by omega
  obtain rfl : k = n := by omega
  simp (config := { implicitDefEqProofs := false, maxDischargeDepth := 6, maxSteps := 1000000 }) only [go_sem, ↓reduceIte, Nat.reduceLT, Nat.reduceLeDiff, Nat.reduceEqDiff, Nat.reduceAdd, Nat.reduceMul, Nat.reduceSub, Nat.reduceBEq, reduceCtorEq, Int.reduceEq, Int.reduceLT, Int.reduceLE, Int.reduceNeg, Int.reduceToNat, f0, f1, f2, f8, f9, nv, hltZ2]
  refine Wk_loopF (fun m f G2 => ∃ j lv, m = k - j ∧ j ≤ k ∧ f.get 0 = some (nv k) ∧ f.get 1 = some (.bool cast) ∧ f.get 2 = some (.slice pa picks.length pc) ∧ f.get 8 = some tv ∧ f.get 10 = some lv ∧ f.get 11 = some (nv j) ∧
      Ext G G2 ∧ OwnL (fun b => G.next ≤ b) G2 4 47 lv (List.replicate j (⟨7, 1, 0, 0⟩ : Act)).length (actC (List.replicate j ⟨7, 1, 0, 0⟩))) k ?_ ?_
  · refine ⟨0, .slice none 0 0, by omega, by omega, ?_, ?_, ?_, ?_, ?_, ?_, Ext.refl hM.ext.wf, .inl ⟨rfl, rfl, rfl⟩⟩
    all_goals simp (config := { implicitDefEqProofs := false, maxDischargeDepth := 6, maxSteps := 1000000 }) only [go_sem, ↓reduceIte, Nat.reduceLT, Nat.reduceLeDiff, Nat.reduceEqDiff, Nat.reduceAdd, Nat.reduceMul, Nat.reduceSub, Nat.reduceBEq, reduceCtorEq, Int.reduceEq, Int.reduceLT, Int.reduceLE, Int.reduceNeg, Int.reduceToNat, f0, f1, f2, f8, nv]
    rfl
  clear f0 f1 f2 f8 f9
  rintro m f G2 ⟨j, lv, rfl, hj, f0, f1, f2, f8, f10, f11, hE2, hL⟩
  unfold L7_3
  by_cases hlt3 : j < k
  · have hltZ3 : (j : Int) < (k : Int) := by omega
    have hw3 : IntKind.i64.wrap ((j : Int) + 1) = ((j + 1 : Nat) : Int) := IntWalk.i64_in _ (by omega)
    obtain ⟨la, lc, rfl⟩ := hL.sl
    simp (config := { implicitDefEqProofs := false, maxDischargeDepth := 6, maxSteps := 1000000 }) only [go_sem, ↓reduceIte, Nat.reduceLT, Nat.reduceLeDiff, Nat.reduceEqDiff, Nat.reduceAdd, Nat.reduceMul, Nat.reduceSub, Nat.reduceBEq, reduceCtorEq, Int.reduceEq, Int.reduceLT, Int.reduceLE, Int.reduceNeg, Int.reduceToNat, f0, f1, f2, f8, f10, f11, nv, hltZ3]
    obtain ⟨G3, lv3, ha3, hE3, hL3⟩ := pushActs (m := 1) (cells := [.int .i64 7, .int .i64 1, .int .i64 0, .int .i64 0]) (new := [⟨7, 1, 0, 0⟩]) hE2 hL rfl rfl (by simp) (by simp; omega)
    refine Wk_vh ha3 ?_
    simp (config := { implicitDefEqProofs := false, maxDischargeDepth := 6, maxSteps := 1000000 }) only [go_sem, ↓reduceIte, Nat.reduceLT, Nat.reduceLeDiff, Nat.reduceEqDiff, Nat.reduceAdd, Nat.reduceMul, Nat.reduceSub, Nat.reduceBEq, reduceCtorEq, Int.reduceEq, Int.reduceLT, Int.reduceLE, Int.reduceNeg, Int.reduceToNat, f0, f1, f2, f8, f10, f11, nv, hw3]
    rw [← List.replicate_succ'] at hL3
    refine ⟨k - (j + 1), by omega, j + 1, lv3, rfl, by omega, ?_, ?_, ?_, ?_, ?_, ?_, hE3, hL3⟩
    · simp (config := { implicitDefEqProofs := false, maxDischargeDepth := 6, maxSteps := 1000000 }) only [go_sem, ↓reduceIte, Nat.reduceLT, Nat.reduceLeDiff, Nat.reduceEqDiff, Nat.reduceAdd, Nat.reduceMul, Nat.reduceSub, Nat.reduceBEq, reduceCtorEq, Int.reduceEq, Int.reduceLT, Int.reduceLE, Int.reduceNeg, Int.reduceToNat, f0, nv]
    · simp (config := { implicitDefEqProofs := false, maxDischargeDepth := 6, maxSteps := 1000000 }) only [go_sem, ↓reduceIte, Nat.reduceLT, Nat.reduceLeDiff, Nat.reduceEqDiff, Nat.reduceAdd, Nat.reduceMul, Nat.reduceSub, Nat.reduceBEq, reduceCtorEq, Int.reduceEq, Int.reduceLT, Int.reduceLE, Int.reduceNeg, Int.reduceToNat, f1]
    · simp (config := { implicitDefEqProofs := false, maxDischargeDepth := 6, maxSteps := 1000000 }) only [go_sem, ↓reduceIte, Nat.reduceLT, Nat.reduceLeDiff, Nat.reduceEqDiff, Nat.reduceAdd, Nat.reduceMul, Nat.reduceSub, Nat.reduceBEq, reduceCtorEq, Int.reduceEq, Int.reduceLT, Int.reduceLE, Int.reduceNeg, Int.reduceToNat, f2]
    · simp (config := { implicitDefEqProofs := false, maxDischargeDepth := 6, maxSteps := 1000000 }) only [go_sem, ↓reduceIte, Nat.reduceLT, Nat.reduceLeDiff, Nat.reduceEqDiff, Nat.reduceAdd, Nat.reduceMul, Nat.reduceSub, Nat.reduceBEq, reduceCtorEq, Int.reduceEq, Int.reduceLT, Int.reduceLE, Int.reduceNeg, Int.reduceToNat, f8]
    · simp (config := { implicitDefEqProofs := false, maxDischargeDepth := 6, maxSteps := 1000000 }) only [go_sem, ↓reduceIte, Nat.reduceLT, Nat.reduceLeDiff, Nat.reduceEqDiff, Nat.reduceAdd, Nat.reduceMul, Nat.reduceSub, Nat.reduceBEq, reduceCtorEq, Int.reduceEq, Int.reduceLT, Int.reduceLE, Int.reduceNeg, Int.reduceToNat, ]
    · simp (config := { implicitDefEqProofs := false, maxDischargeDepth := 6, maxSteps := 1000000 }) only [go_sem, ↓reduceIte, Nat.reduceLT, Nat.reduceLeDiff, Nat.reduceEqDiff, Nat.reduceAdd, Nat.reduceMul, Nat.reduceSub, Nat.reduceBEq, reduceCtorEq, Int.reduceEq, Int.reduceLT, Int.reduceLE, Int.reduceNeg, Int.reduceToNat, nv]
  have hltZ3 : ¬ (j : Int) < (k : Int) := by omega
  obtain rfl : j = k := by omega
  obtain ⟨la, lc, rfl⟩ := hL.sl
  simp (config := { implicitDefEqProofs := false, maxDischargeDepth := 6, maxSteps := 1000000 }) only [go_sem, ↓reduceIte, Nat.reduceLT, Nat.reduceLeDiff, Nat.reduceEqDiff, Nat.reduceAdd, Nat.reduceMul, Nat.reduceSub, Nat.reduceBEq, reduceCtorEq, Int.reduceEq, Int.reduceLT, Int.reduceLE, Int.reduceNeg, Int.reduceToNat, f0, f1, f2, f8, f10, f11, nv, hltZ3]
  obtain ⟨G3, lv3, ha3, hE3, hL3⟩ := pushActs (m := 1) (cells := [.int .i64 1, .int .i64 0, .int .i64 0, .int .i64 0]) (new := [⟨1, 0, 0, 0⟩]) hE2 hL rfl rfl (by simp) (by simp; omega)
  refine Wk_vh ha3 ?_
  simp (config := { implicitDefEqProofs := false, maxDischargeDepth := 6, maxSteps := 1000000 }) only [go_sem, ↓reduceIte, Nat.reduceLT, Nat.reduceLeDiff, Nat.reduceEqDiff, Nat.reduceAdd, Nat.reduceMul, Nat.reduceSub, Nat.reduceBEq, reduceCtorEq, Int.reduceEq, Int.reduceLT, Int.reduceLE, Int.reduceNeg, Int.reduceToNat, f0, f1, f2, f8, nv]
  clear ha3 hL hE2
  refine Wk_loopF (fun m f G2 => ∃ i lv, m = wkE cast j - i ∧ i ≤ wkE cast j ∧ f.get 0 = some (nv j) ∧ f.get 1 = some (.bool cast) ∧ f.get 2 = some (.slice pa picks.length pc) ∧ f.get 8 = some tv ∧ f.get 10 = some lv ∧ f.get 12 = some (nv i) ∧
      Ext G G2 ∧ OwnL (fun b => G.next ≤ b) G2 4 47 lv (wkP cast j i).length (actC (wkP cast j i))) (wkE cast j) ?_ ?_
  · refine ⟨0, lv3, by omega, by omega, ?_, ?_, ?_, ?_, ?_, ?_, hE3, ?_⟩
    · simp (config := { implicitDefEqProofs := false, maxDischargeDepth := 6, maxSteps := 1000000 }) only [go_sem, ↓reduceIte, Nat.reduceLT, Nat.reduceLeDiff, Nat.reduceEqDiff, Nat.reduceAdd, Nat.reduceMul, Nat.reduceSub, Nat.reduceBEq, reduceCtorEq, Int.reduceEq, Int.reduceLT, Int.reduceLE, Int.reduceNeg, Int.reduceToNat, f0, nv]
    · simp (config := { implicitDefEqProofs := false, maxDischargeDepth := 6, maxSteps := 1000000 }) only [go_sem, ↓reduceIte, Nat.reduceLT, Nat.reduceLeDiff, Nat.reduceEqDiff, Nat.reduceAdd, Nat.reduceMul, Nat.reduceSub, Nat.reduceBEq, reduceCtorEq, Int.reduceEq, Int.reduceLT, Int.reduceLE, Int.reduceNeg, Int.reduceToNat, f1]
    · simp (config := { implicitDefEqProofs := false, maxDischargeDepth := 6, maxSteps := 1000000 }) only [go_sem, ↓reduceIte, Nat.reduceLT, Nat.reduceLeDiff, Nat.reduceEqDiff, Nat.reduceAdd, Nat.reduceMul, Nat.reduceSub, Nat.reduceBEq, reduceCtorEq, Int.reduceEq, Int.reduceLT, Int.reduceLE, Int.reduceNeg, Int.reduceToNat, f2]
    · simp (config := { implicitDefEqProofs := false, maxDischargeDepth := 6, maxSteps := 1000000 }) only [go_sem, ↓reduceIte, Nat.reduceLT, Nat.reduceLeDiff, Nat.reduceEqDiff, Nat.reduceAdd, Nat.reduceMul, Nat.reduceSub, Nat.reduceBEq, reduceCtorEq, Int.reduceEq, Int.reduceLT, Int.reduceLE, Int.reduceNeg, Int.reduceToNat, f8]
    · simp (config := { implicitDefEqProofs := false, maxDischargeDepth := 6, maxSteps := 1000000 }) only [go_sem, ↓reduceIte, Nat.reduceLT, Nat.reduceLeDiff, Nat.reduceEqDiff, Nat.reduceAdd, Nat.reduceMul, Nat.reduceSub, Nat.reduceBEq, reduceCtorEq, Int.reduceEq, Int.reduceLT, Int.reduceLE, Int.reduceNeg, Int.reduceToNat, ]
    · simp (config := { implicitDefEqProofs := false, maxDischargeDepth := 6, maxSteps := 1000000 }) only [go_sem, ↓reduceIte, Nat.reduceLT, Nat.reduceLeDiff, Nat.reduceEqDiff, Nat.reduceAdd, Nat.reduceMul, Nat.reduceSub, Nat.reduceBEq, reduceCtorEq, Int.reduceEq, Int.reduceLT, Int.reduceLE, Int.reduceNeg, Int.reduceToNat, nv]
      rfl
    · have e : wkP cast j 0 = List.replicate j ⟨7, 1, 0, 0⟩ ++ [⟨1, 0, 0, 0⟩] := by simp [wkP]
      rw [e]; exact hL3
  clear f0 f1 f2 f8 f10 f11
  rintro m f G4 ⟨i, lv, rfl, hi, f0, f1, f2, f8, f10, f12, hE4, hL4⟩
  unfold L7_4
  have hj15 : j ≤ 15 := by omega
  have hie : i ≤ j := by unfold wkE at hi; split at hi <;> omega
  have hwi : IntKind.i64.wrap ((i : Int) + 1) = ((i + 1 : Nat) : Int) := IntWalk.i64_in _ (by omega)
  by_cases hlt4 : i < wkE cast j
  · obtain ⟨la4, lc4, rfl⟩ := hL4.sl
    have hwl := wkP_len cast j i
    have hltZ4 : (i : Int) < (j : Int) := by unfold wkE at hlt4; split at hlt4 <;> omega
    cases cast with
    | true =>
      obtain rfl : i = 0 := by simp only [wkE, if_true] at hlt4; omega
      have z0 : ((0 : Nat) : Int) = 0 := rfl
      have h0j : (0 : Int) < (j : Int) := by omega
      simp (config := { implicitDefEqProofs := false, maxDischargeDepth := 6, maxSteps := 1000000 }) only [go_sem, ↓reduceIte, Nat.reduceLT, Nat.reduceLeDiff, Nat.reduceEqDiff, Nat.reduceAdd, Nat.reduceMul, Nat.reduceSub, Nat.reduceBEq, reduceCtorEq, Int.reduceEq, Int.reduceLT, Int.reduceLE, Int.reduceNeg, Int.reduceToNat, f0, f1, f2, f8, f10, f12, nv, h0j, z0]
      obtain ⟨G5, lv5, ha5, hE5, hL5⟩ := pushActs (m := 1) (cells := [.int .i64 5, .int .i64 2, .int .i64 0, .int .i64 0]) (new := [⟨5, 2, 0, 0⟩]) hE4 hL4 rfl rfl (by simp) (by rw [hwl]; simp; omega)
      refine Wk_vh ha5 ?_
      simp (config := { implicitDefEqProofs := false, maxDischargeDepth := 6, maxSteps := 1000000 }) only [go_sem, ↓reduceIte, Nat.reduceLT, Nat.reduceLeDiff, Nat.reduceEqDiff, Nat.reduceAdd, Nat.reduceMul, Nat.reduceSub, Nat.reduceBEq, reduceCtorEq, Int.reduceEq, Int.reduceLT, Int.reduceLE, Int.reduceNeg, Int.reduceToNat, f0, f1, f2, f8, f12, nv, hwi, z0]
      refine ⟨0, by simp only [wkE, if_true]; omega, 1, lv5, by simp only [wkE, if_true], by simp only [wkE, if_true]; omega, ?_, ?_, ?_, ?_, ?_, ?_, hE5, ?_⟩
      · simp (config := { implicitDefEqProofs := false, maxDischargeDepth := 6, maxSteps := 1000000 }) only [go_sem, ↓reduceIte, Nat.reduceLT, Nat.reduceLeDiff, Nat.reduceEqDiff, Nat.reduceAdd, Nat.reduceMul, Nat.reduceSub, Nat.reduceBEq, reduceCtorEq, Int.reduceEq, Int.reduceLT, Int.reduceLE, Int.reduceNeg, Int.reduceToNat, f0, nv]
      · simp (config := { implicitDefEqProofs := false, maxDischargeDepth := 6, maxSteps := 1000000 }) only [go_sem, ↓reduceIte, Nat.reduceLT, Nat.reduceLeDiff, Nat.reduceEqDiff, Nat.reduceAdd, Nat.reduceMul, Nat.reduceSub, Nat.reduceBEq, reduceCtorEq, Int.reduceEq, Int.reduceLT, Int.reduceLE, Int.reduceNeg, Int.reduceToNat, f1]
      · simp (config := { implicitDefEqProofs := false, maxDischargeDepth := 6, maxSteps := 1000000 }) only [go_sem, ↓reduceIte, Nat.reduceLT, Nat.reduceLeDiff, Nat.reduceEqDiff, Nat.reduceAdd, Nat.reduceMul, Nat.reduceSub, Nat.reduceBEq, reduceCtorEq, Int.reduceEq, Int.reduceLT, Int.reduceLE, Int.reduceNeg, Int.reduceToNat, f2]
      · simp (config := { implicitDefEqProofs := false, maxDischargeDepth := 6, maxSteps := 1000000 }) only [go_sem, ↓reduceIte, Nat.reduceLT, Nat.reduceLeDiff, Nat.reduceEqDiff, Nat.reduceAdd, Nat.reduceMul, Nat.reduceSub, Nat.reduceBEq, reduceCtorEq, Int.reduceEq, Int.reduceLT, Int.reduceLE, Int.reduceNeg, Int.reduceToNat, f8]
      · simp (config := { implicitDefEqProofs := false, maxDischargeDepth := 6, maxSteps := 1000000 }) only [go_sem, ↓reduceIte, Nat.reduceLT, Nat.reduceLeDiff, Nat.reduceEqDiff, Nat.reduceAdd, Nat.reduceMul, Nat.reduceSub, Nat.reduceBEq, reduceCtorEq, Int.reduceEq, Int.reduceLT, Int.reduceLE, Int.reduceNeg, Int.reduceToNat, ]
      · simp (config := { implicitDefEqProofs := false, maxDischargeDepth := 6, maxSteps := 1000000 }) only [go_sem, ↓reduceIte, Nat.reduceLT, Nat.reduceLeDiff, Nat.reduceEqDiff, Nat.reduceAdd, Nat.reduceMul, Nat.reduceSub, Nat.reduceBEq, reduceCtorEq, Int.reduceEq, Int.reduceLT, Int.reduceLE, Int.reduceNeg, Int.reduceToNat, nv, f12]
        rfl
      · rw [wkP_succ]; exact hL5
    | false =>
      by_cases hi0 : (i : Int) = 0
      · obtain rfl : i = 0 := by omega
        have z0 : ((0 : Nat) : Int) = 0 := rfl
        have h0j : (0 : Int) < (j : Int) := by omega
        simp (config := { implicitDefEqProofs := false, maxDischargeDepth := 6, maxSteps := 1000000 }) only [go_sem, ↓reduceIte, Nat.reduceLT, Nat.reduceLeDiff, Nat.reduceEqDiff, Nat.reduceAdd, Nat.reduceMul, Nat.reduceSub, Nat.reduceBEq, reduceCtorEq, Int.reduceEq, Int.reduceLT, Int.reduceLE, Int.reduceNeg, Int.reduceToNat, f0, f1, f2, f8, f10, f12, nv, h0j, z0]
        obtain ⟨G5, lv5, ha5, hE5, hL5⟩ := pushActs (m := 1) (cells := [.int .i64 4, .int .i64 2, .int .i64 0, .int .i64 0]) (new := [⟨4, 2, 0, 0⟩]) hE4 hL4 rfl rfl (by simp) (by rw [hwl]; simp; omega)
        refine Wk_vh ha5 ?_
        simp (config := { implicitDefEqProofs := false, maxDischargeDepth := 6, maxSteps := 1000000 }) only [go_sem, ↓reduceIte, Nat.reduceLT, Nat.reduceLeDiff, Nat.reduceEqDiff, Nat.reduceAdd, Nat.reduceMul, Nat.reduceSub, Nat.reduceBEq, reduceCtorEq, Int.reduceEq, Int.reduceLT, Int.reduceLE, Int.reduceNeg, Int.reduceToNat, f0, f1, f2, f8, f12, nv, hwi, z0]
        refine ⟨wkE false j - (0 + 1), by omega, 0 + 1, lv5, rfl, by omega, ?_, ?_, ?_, ?_, ?_, ?_, hE5, ?_⟩
        · simp (config := { implicitDefEqProofs := false, maxDischargeDepth := 6, maxSteps := 1000000 }) only [go_sem, ↓reduceIte, Nat.reduceLT, Nat.reduceLeDiff, Nat.reduceEqDiff, Nat.reduceAdd, Nat.reduceMul, Nat.reduceSub, Nat.reduceBEq, reduceCtorEq, Int.reduceEq, Int.reduceLT, Int.reduceLE, Int.reduceNeg, Int.reduceToNat, f0, nv]
        · simp (config := { implicitDefEqProofs := false, maxDischargeDepth := 6, maxSteps := 1000000 }) only [go_sem, ↓reduceIte, Nat.reduceLT, Nat.reduceLeDiff, Nat.reduceEqDiff, Nat.reduceAdd, Nat.reduceMul, Nat.reduceSub, Nat.reduceBEq, reduceCtorEq, Int.reduceEq, Int.reduceLT, Int.reduceLE, Int.reduceNeg, Int.reduceToNat, f1]
        · simp (config := { implicitDefEqProofs := false, maxDischargeDepth := 6, maxSteps := 1000000 }) only [go_sem, ↓reduceIte, Nat.reduceLT, Nat.reduceLeDiff, Nat.reduceEqDiff, Nat.reduceAdd, Nat.reduceMul, Nat.reduceSub, Nat.reduceBEq, reduceCtorEq, Int.reduceEq, Int.reduceLT, Int.reduceLE, Int.reduceNeg, Int.reduceToNat, f2]
        · simp (config := { implicitDefEqProofs := false, maxDischargeDepth := 6, maxSteps := 1000000 }) only [go_sem, ↓reduceIte, Nat.reduceLT, Nat.reduceLeDiff, Nat.reduceEqDiff, Nat.reduceAdd, Nat.reduceMul, Nat.reduceSub, Nat.reduceBEq, reduceCtorEq, Int.reduceEq, Int.reduceLT, Int.reduceLE, Int.reduceNeg, Int.reduceToNat, f8]
        · simp (config := { implicitDefEqProofs := false, maxDischargeDepth := 6, maxSteps := 1000000 }) only [go_sem, ↓reduceIte, Nat.reduceLT, Nat.reduceLeDiff, Nat.reduceEqDiff, Nat.reduceAdd, Nat.reduceMul, Nat.reduceSub, Nat.reduceBEq, reduceCtorEq, Int.reduceEq, Int.reduceLT, Int.reduceLE, Int.reduceNeg, Int.reduceToNat, ]
        · simp (config := { implicitDefEqProofs := false, maxDischargeDepth := 6, maxSteps := 1000000 }) only [go_sem, ↓reduceIte, Nat.reduceLT, Nat.reduceLeDiff, Nat.reduceEqDiff, Nat.reduceAdd, Nat.reduceMul, Nat.reduceSub, Nat.reduceBEq, reduceCtorEq, Int.reduceEq, Int.reduceLT, Int.reduceLE, Int.reduceNeg, Int.reduceToNat, nv]
          rfl
        · rw [wkP_succ]; exact hL5
      · simp (config := { implicitDefEqProofs := false, maxDischargeDepth := 6, maxSteps := 1000000 }) only [go_sem, ↓reduceIte, Nat.reduceLT, Nat.reduceLeDiff, Nat.reduceEqDiff, Nat.reduceAdd, Nat.reduceMul, Nat.reduceSub, Nat.reduceBEq, reduceCtorEq, Int.reduceEq, Int.reduceLT, Int.reduceLE, Int.reduceNeg, Int.reduceToNat, f0, f1, f2, f8, f10, f12, nv, hltZ4, hi0]
        obtain ⟨G5, lv5, ha5, hE5, hL5⟩ := pushActs (m := 1) (cells := [.int .i64 4, .int .i64 2, .int .i64 0, .int .i64 0]) (new := [⟨4, 2, 0, 0⟩]) hE4 hL4 rfl rfl (by simp) (by rw [hwl]; simp; omega)
        refine Wk_vh ha5 ?_
        simp (config := { implicitDefEqProofs := false, maxDischargeDepth := 6, maxSteps := 1000000 }) only [go_sem, ↓reduceIte, Nat.reduceLT, Nat.reduceLeDiff, Nat.reduceEqDiff, Nat.reduceAdd, Nat.reduceMul, Nat.reduceSub, Nat.reduceBEq, reduceCtorEq, Int.reduceEq, Int.reduceLT, Int.reduceLE, Int.reduceNeg, Int.reduceToNat, f0, f1, f2, f8, f12, nv, hwi]
        refine ⟨wkE false j - (i + 1), by omega, i + 1, lv5, rfl, by omega, ?_, ?_, ?_, ?_, ?_, ?_, hE5, ?_⟩
        · simp (config := { implicitDefEqProofs := false, maxDischargeDepth := 6, maxSteps := 1000000 }) only [go_sem, ↓reduceIte, Nat.reduceLT, Nat.reduceLeDiff, Nat.reduceEqDiff, Nat.reduceAdd, Nat.reduceMul, Nat.reduceSub, Nat.reduceBEq, reduceCtorEq, Int.reduceEq, Int.reduceLT, Int.reduceLE, Int.reduceNeg, Int.reduceToNat, f0, nv]
        · simp (config := { implicitDefEqProofs := false, maxDischargeDepth := 6, maxSteps := 1000000 }) only [go_sem, ↓reduceIte, Nat.reduceLT, Nat.reduceLeDiff, Nat.reduceEqDiff, Nat.reduceAdd, Nat.reduceMul, Nat.reduceSub, Nat.reduceBEq, reduceCtorEq, Int.reduceEq, Int.reduceLT, Int.reduceLE, Int.reduceNeg, Int.reduceToNat, f1]
        · simp (config := { implicitDefEqProofs := false, maxDischargeDepth := 6, maxSteps := 1000000 }) only [go_sem, ↓reduceIte, Nat.reduceLT, Nat.reduceLeDiff, Nat.reduceEqDiff, Nat.reduceAdd, Nat.reduceMul, Nat.reduceSub, Nat.reduceBEq, reduceCtorEq, Int.reduceEq, Int.reduceLT, Int.reduceLE, Int.reduceNeg, Int.reduceToNat, f2]
        · simp (config := { implicitDefEqProofs := false, maxDischargeDepth := 6, maxSteps := 1000000 }) only [go_sem, ↓reduceIte, Nat.reduceLT, Nat.reduceLeDiff, Nat.reduceEqDiff, Nat.reduceAdd, Nat.reduceMul, Nat.reduceSub, Nat.reduceBEq, reduceCtorEq, Int.reduceEq, Int.reduceLT, Int.reduceLE, Int.reduceNeg, Int.reduceToNat, f8]
        · simp (config := { implicitDefEqProofs := false, maxDischargeDepth := 6, maxSteps := 1000000 }) only [go_sem, ↓reduceIte, Nat.reduceLT, Nat.reduceLeDiff, Nat.reduceEqDiff, Nat.reduceAdd, Nat.reduceMul, Nat.reduceSub, Nat.reduceBEq, reduceCtorEq, Int.reduceEq, Int.reduceLT, Int.reduceLE, Int.reduceNeg, Int.reduceToNat, ]
        · simp (config := { implicitDefEqProofs := false, maxDischargeDepth := 6, maxSteps := 1000000 }) only [go_sem, ↓reduceIte, Nat.reduceLT, Nat.reduceLeDiff, Nat.reduceEqDiff, Nat.reduceAdd, Nat.reduceMul, Nat.reduceSub, Nat.reduceBEq, reduceCtorEq, Int.reduceEq, Int.reduceLT, Int.reduceLE, Int.reduceNeg, Int.reduceToNat, nv]
        · rw [wkP_succ]; exact hL5
  obtain rfl : i = wkE cast j := by omega
  obtain ⟨la4, lc4, rfl⟩ := hL4.sl
  have hwl := wkP_len cast j (wkE cast j)
  obtain ⟨H7, lv7, ha7, hE7, hL7⟩ := pushActs (m := 1) (cells := [.int .i64 2, .int .i64 0, .int .i64 0, .int .i64 0]) (new := [⟨2, 0, 0, 0⟩]) hE4 hL4 rfl rfl (by simp) (by rw [hwl]; simp; omega)
  cases cast with
  | true =>
    have e1 : wkE true j = 1 := rfl
    have z1 : ((wkE true j : Nat) : Int) = 1 := rfl
    by_cases h1j : (1 : Int) < (j : Int)
    · simp (config := { implicitDefEqProofs := false, maxDischargeDepth := 6, maxSteps := 1000000 }) only [go_sem, ↓reduceIte, Nat.reduceLT, Nat.reduceLeDiff, Nat.reduceEqDiff, Nat.reduceAdd, Nat.reduceMul, Nat.reduceSub, Nat.reduceBEq, reduceCtorEq, Int.reduceEq, Int.reduceLT, Int.reduceLE, Int.reduceNeg, Int.reduceToNat, f0, f1, f2, f8, f10, f12, nv, z1, h1j]
      refine Wk_vh ha7 ?_
      obtain ⟨la7, lc7, rfl⟩ := hL7.sl
      obtain ⟨ta7, tc7, rfl⟩ := hM.out.sl
      have hnb7 := hE7.wf.1
      have hEa := (Ext.refl hE7.wf).alloc (⟨45, 0, false, [.slice la7 (wkP true j (wkE true j) ++ [⟨2, 0, 0, 0⟩] : List Act).length lc7]⟩ : Blk)
      obtain ⟨G8, tv8, ha8, hM8⟩ := ((hM.of hE7).of hEa).push (nb := H7.next) ((hL7.lst hM.ext).of hE7.wf hEa) (get_alloc_eq hnb7) (by rw [List.length_replicate]; omega)
      rw [List.length_replicate] at ha8
      simp (config := { implicitDefEqProofs := false, maxDischargeDepth := 6, maxSteps := 1000000 }) only [go_sem, ↓reduceIte, Nat.reduceLT, Nat.reduceLeDiff, Nat.reduceEqDiff, Nat.reduceAdd, Nat.reduceMul, Nat.reduceSub, Nat.reduceBEq, reduceCtorEq, Int.reduceEq, Int.reduceLT, Int.reduceLE, Int.reduceNeg, Int.reduceToNat, f0, f1, f2, f8, nv, List.length_replicate]
      refine Wk_vh ha8 ?_
      simp (config := { implicitDefEqProofs := false, maxDischargeDepth := 6, maxSteps := 1000000 }) only [go_sem, ↓reduceIte, Nat.reduceLT, Nat.reduceLeDiff, Nat.reduceEqDiff, Nat.reduceAdd, Nat.reduceMul, Nat.reduceSub, Nat.reduceBEq, reduceCtorEq, Int.reduceEq, Int.reduceLT, Int.reduceLE, Int.reduceNeg, Int.reduceToNat, f0, f2, nv]
      have hpG := hp0.of fun b x hb => hM8.ext.of hw0 hb
      rw [hpv] at hpG
      refine CW_mono _ (Run_W (ts := cdT true j) hM8.ext.wf hM8.tasks (by rw [cdT, List.length_append, List.length_replicate]; simp; omega) (room := 16) (most := 65536) hpG) ?_
      intro x H1 hR
      obtain ⟨hE1, _, hR⟩ := hR
      obtain ⟨trv, rgv, ev, qsv, qv, rfl, hA⟩ := hR hOk.ask
      rw [show Int.toNat 65536 = 65536 from rfl] at hA ⊢
      have hdone := hOk.done
      have hreg := hOk.reg
      have hSN : (runM 65536 (S0 (cdT true j) 16) picks).N = j + 1 := by
        rw [(runM_N 65536 picks).1]; show (cdT true j).length = _
        rw [cdT, List.length_append, List.length_replicate]; rfl
      generalize runM 65536 (S0 (cdT true j) 16) picks = S at *
      have hw1 := hE1.wf
      have hnb1 := hw1.1
      obtain ⟨ra, rc, rfl⟩ := hA.regs.sl
      obtain ⟨ea, ec, rfl⟩ := hA.ends.sl
      obtain ⟨sa, sc, rfl⟩ := hA.queues.sl
      obtain ⟨ta, tc, rfl⟩ := hA.trace.sl
      have hEF := ((Ext.refl hw1).alloc (⟨33, 0, false, [.int .i64 0, .slice none 0 0, .slice none 0 0, .slice none 0 0, .slice none 0 0]⟩ : Blk)).set (b := H1.next) (Nat.le_refl _) (by simp only [next_alloc]; omega) (⟨33, 0, false, [.int .i64 S.trace.length, .slice ta S.trace.length tc, .slice ra 8 rc, .slice ea (j + 1) ec, .slice sa 4 sc]⟩ : Blk)
      have hAF := hA.of hw1 hEF
      clear hA
      have hrg := hAF.regs.rd.at_ (i := 3) (by simp)
      have hends := hAF.ends
      clear hAF
      rw [hSN] at hends
      have h8 : ((8 : Nat) : Int) = 8 := rfl
      have m1 : IntKind.i64.wrap ((j : Int) + 1) = ((j + 1 : Nat) : Int) := IntWalk.i64_in _ (by omega)
      obtain ⟨b, o, c, x, hv, hc, hx, hx0⟩ := hrg
      simp only [Value.slice.injEq, List.length_map, List.length_range, true_and] at hv
      obtain ⟨rfl, rfl⟩ := hv
      simp only [List.getElem_map, List.getElem_range, iv, hreg] at hx0
      simp (config := { implicitDefEqProofs := false, maxDischargeDepth := 6, maxSteps := 1000000 }) only [go_sem, ↓reduceIte, Nat.reduceLT, Nat.reduceLeDiff, Nat.reduceEqDiff, Nat.reduceAdd, Nat.reduceMul, Nat.reduceSub, Nat.reduceBEq, reduceCtorEq, Int.reduceEq, Int.reduceLT, Int.reduceLE, Int.reduceNeg, Int.reduceToNat, f0, f2, nv, loads_eq, hnb1, hSN, goInt, h8, m1, hc, hx, hx0]
      clear hEF
      generalize hF : (Heap.set (Heap.alloc H1 ⟨33, 0, false, [.int .i64 0, .slice none 0 0, .slice none 0 0, .slice none 0 0, .slice none 0 0]⟩) H1.next ⟨33, 0, false, [.int .i64 S.trace.length, .slice ta S.trace.length tc, .slice (some ⟨b, o, none⟩) 8 rc, .slice ea (j + 1) ec, .slice sa 4 sc]⟩) = F at *
      have hcell : F.get H1.next = some ⟨33, 0, false, [.int .i64 S.trace.length, .slice ta S.trace.length tc, .slice (some ⟨b, o, none⟩) 8 rc, .slice ea (j + 1) ec, .slice sa 4 sc]⟩ := by rw [← hF]; exact get_set_eq hnb1
      refine Wk_loopF (fun m f G => ∃ i, m = j + 1 - i ∧ i ≤ j + 1 ∧ f.get 0 = some (nv j) ∧ f.get 13 = some (.pointer (some ⟨H1.next, 0, none⟩)) ∧ f.get 15 = some (nv i) ∧ G = F) (j + 1) ?_ ?_
      · refine ⟨0, by omega, by omega, ?_, ?_, ?_, rfl⟩
        all_goals simp (config := { implicitDefEqProofs := false, maxDischargeDepth := 6, maxSteps := 1000000 }) only [go_sem, ↓reduceIte, Nat.reduceLT, Nat.reduceLeDiff, Nat.reduceEqDiff, Nat.reduceAdd, Nat.reduceMul, Nat.reduceSub, Nat.reduceBEq, reduceCtorEq, Int.reduceEq, Int.reduceLT, Int.reduceLE, Int.reduceNeg, Int.reduceToNat, f0, nv]
        rfl
      clear f0 f1 f2 f8 f10 f12
      rintro m f G ⟨i, rfl, hi, f0, f13, f15, rfl⟩
      unfold L7_5
      by_cases hlti : i < j + 1
      · have hltZi : (i : Int) ≤ (j : Int) := by omega
        have hltZj : (i : Int) < ((j + 1 : Nat) : Int) := by omega
        have hi0 : (0 : Int) ≤ (i : Int) := by omega
        have hwi : IntKind.i64.wrap ((i : Int) + 1) = ((i + 1 : Nat) : Int) := IntWalk.i64_in _ (by omega)
        obtain ⟨b', o', c', x', hv, hc', hx', hx0', _⟩ := pair_at hends hlti
        simp only [Value.slice.injEq, true_and] at hv
        obtain ⟨rfl, rfl⟩ := hv
        rw [hdone i (by omega)] at hx0'
        simp only [iv] at hx0'
        simp (config := { implicitDefEqProofs := false, maxDischargeDepth := 6, maxSteps := 1000000 }) only [go_sem, ↓reduceIte, Nat.reduceLT, Nat.reduceLeDiff, Nat.reduceEqDiff, Nat.reduceAdd, Nat.reduceMul, Nat.reduceSub, Nat.reduceBEq, reduceCtorEq, Int.reduceEq, Int.reduceLT, Int.reduceLE, Int.reduceNeg, Int.reduceToNat, f0, f13, f15, nv, hltZi, hltZj, hi0, hcell, hc', hx', hx0', hwi, Nat.add_zero]
        refine ⟨j + 1 - (i + 1), by omega, i + 1, rfl, by omega, ?_, ?_, ?_, rfl⟩
        · simp (config := { implicitDefEqProofs := false, maxDischargeDepth := 6, maxSteps := 1000000 }) only [go_sem, ↓reduceIte, Nat.reduceLT, Nat.reduceLeDiff, Nat.reduceEqDiff, Nat.reduceAdd, Nat.reduceMul, Nat.reduceSub, Nat.reduceBEq, reduceCtorEq, Int.reduceEq, Int.reduceLT, Int.reduceLE, Int.reduceNeg, Int.reduceToNat, f0, nv]
        · simp (config := { implicitDefEqProofs := false, maxDischargeDepth := 6, maxSteps := 1000000 }) only [go_sem, ↓reduceIte, Nat.reduceLT, Nat.reduceLeDiff, Nat.reduceEqDiff, Nat.reduceAdd, Nat.reduceMul, Nat.reduceSub, Nat.reduceBEq, reduceCtorEq, Int.reduceEq, Int.reduceLT, Int.reduceLE, Int.reduceNeg, Int.reduceToNat, f13]
        · simp (config := { implicitDefEqProofs := false, maxDischargeDepth := 6, maxSteps := 1000000 }) only [go_sem, ↓reduceIte, Nat.reduceLT, Nat.reduceLeDiff, Nat.reduceEqDiff, Nat.reduceAdd, Nat.reduceMul, Nat.reduceSub, Nat.reduceBEq, reduceCtorEq, Int.reduceEq, Int.reduceLT, Int.reduceLE, Int.reduceNeg, Int.reduceToNat, nv]
      · have hltZi : ¬ (i : Int) ≤ (j : Int) := by omega
        simp (config := { implicitDefEqProofs := false, maxDischargeDepth := 6, maxSteps := 1000000 }) only [go_sem, ↓reduceIte, Nat.reduceLT, Nat.reduceLeDiff, Nat.reduceEqDiff, Nat.reduceAdd, Nat.reduceMul, Nat.reduceSub, Nat.reduceBEq, reduceCtorEq, Int.reduceEq, Int.reduceLT, Int.reduceLE, Int.reduceNeg, Int.reduceToNat, f0, f13, f15, nv, hltZi]
    · simp (config := { implicitDefEqProofs := false, maxDischargeDepth := 6, maxSteps := 1000000 }) only [go_sem, ↓reduceIte, Nat.reduceLT, Nat.reduceLeDiff, Nat.reduceEqDiff, Nat.reduceAdd, Nat.reduceMul, Nat.reduceSub, Nat.reduceBEq, reduceCtorEq, Int.reduceEq, Int.reduceLT, Int.reduceLE, Int.reduceNeg, Int.reduceToNat, f0, f1, f2, f8, f10, f12, nv, z1, h1j]
      refine Wk_vh ha7 ?_
      obtain ⟨la7, lc7, rfl⟩ := hL7.sl
      obtain ⟨ta7, tc7, rfl⟩ := hM.out.sl
      have hnb7 := hE7.wf.1
      have hEa := (Ext.refl hE7.wf).alloc (⟨45, 0, false, [.slice la7 (wkP true j (wkE true j) ++ [⟨2, 0, 0, 0⟩] : List Act).length lc7]⟩ : Blk)
      obtain ⟨G8, tv8, ha8, hM8⟩ := ((hM.of hE7).of hEa).push (nb := H7.next) ((hL7.lst hM.ext).of hE7.wf hEa) (get_alloc_eq hnb7) (by rw [List.length_replicate]; omega)
      rw [List.length_replicate] at ha8
      simp (config := { implicitDefEqProofs := false, maxDischargeDepth := 6, maxSteps := 1000000 }) only [go_sem, ↓reduceIte, Nat.reduceLT, Nat.reduceLeDiff, Nat.reduceEqDiff, Nat.reduceAdd, Nat.reduceMul, Nat.reduceSub, Nat.reduceBEq, reduceCtorEq, Int.reduceEq, Int.reduceLT, Int.reduceLE, Int.reduceNeg, Int.reduceToNat, f0, f1, f2, f8, nv, List.length_replicate]
      refine Wk_vh ha8 ?_
      simp (config := { implicitDefEqProofs := false, maxDischargeDepth := 6, maxSteps := 1000000 }) only [go_sem, ↓reduceIte, Nat.reduceLT, Nat.reduceLeDiff, Nat.reduceEqDiff, Nat.reduceAdd, Nat.reduceMul, Nat.reduceSub, Nat.reduceBEq, reduceCtorEq, Int.reduceEq, Int.reduceLT, Int.reduceLE, Int.reduceNeg, Int.reduceToNat, f0, f2, nv]
      have hpG := hp0.of fun b x hb => hM8.ext.of hw0 hb
      rw [hpv] at hpG
      refine CW_mono _ (Run_W (ts := cdT true j) hM8.ext.wf hM8.tasks (by rw [cdT, List.length_append, List.length_replicate]; simp; omega) (room := 16) (most := 65536) hpG) ?_
      intro x H1 hR
      obtain ⟨hE1, _, hR⟩ := hR
      obtain ⟨trv, rgv, ev, qsv, qv, rfl, hA⟩ := hR hOk.ask
      rw [show Int.toNat 65536 = 65536 from rfl] at hA ⊢
      have hdone := hOk.done
      have hreg := hOk.reg
      have hSN : (runM 65536 (S0 (cdT true j) 16) picks).N = j + 1 := by
        rw [(runM_N 65536 picks).1]; show (cdT true j).length = _
        rw [cdT, List.length_append, List.length_replicate]; rfl
      generalize runM 65536 (S0 (cdT true j) 16) picks = S at *
      have hw1 := hE1.wf
      have hnb1 := hw1.1
      obtain ⟨ra, rc, rfl⟩ := hA.regs.sl
      obtain ⟨ea, ec, rfl⟩ := hA.ends.sl
      obtain ⟨sa, sc, rfl⟩ := hA.queues.sl
      obtain ⟨ta, tc, rfl⟩ := hA.trace.sl
      have hEF := ((Ext.refl hw1).alloc (⟨33, 0, false, [.int .i64 0, .slice none 0 0, .slice none 0 0, .slice none 0 0, .slice none 0 0]⟩ : Blk)).set (b := H1.next) (Nat.le_refl _) (by simp only [next_alloc]; omega) (⟨33, 0, false, [.int .i64 S.trace.length, .slice ta S.trace.length tc, .slice ra 8 rc, .slice ea (j + 1) ec, .slice sa 4 sc]⟩ : Blk)
      have hAF := hA.of hw1 hEF
      clear hA
      have hrg := hAF.regs.rd.at_ (i := 3) (by simp)
      have hends := hAF.ends
      clear hAF
      rw [hSN] at hends
      have h8 : ((8 : Nat) : Int) = 8 := rfl
      have m1 : IntKind.i64.wrap ((j : Int) + 1) = ((j + 1 : Nat) : Int) := IntWalk.i64_in _ (by omega)
      obtain ⟨b, o, c, x, hv, hc, hx, hx0⟩ := hrg
      simp only [Value.slice.injEq, List.length_map, List.length_range, true_and] at hv
      obtain ⟨rfl, rfl⟩ := hv
      simp only [List.getElem_map, List.getElem_range, iv, hreg] at hx0
      simp (config := { implicitDefEqProofs := false, maxDischargeDepth := 6, maxSteps := 1000000 }) only [go_sem, ↓reduceIte, Nat.reduceLT, Nat.reduceLeDiff, Nat.reduceEqDiff, Nat.reduceAdd, Nat.reduceMul, Nat.reduceSub, Nat.reduceBEq, reduceCtorEq, Int.reduceEq, Int.reduceLT, Int.reduceLE, Int.reduceNeg, Int.reduceToNat, f0, f2, nv, loads_eq, hnb1, hSN, goInt, h8, m1, hc, hx, hx0]
      clear hEF
      generalize hF : (Heap.set (Heap.alloc H1 ⟨33, 0, false, [.int .i64 0, .slice none 0 0, .slice none 0 0, .slice none 0 0, .slice none 0 0]⟩) H1.next ⟨33, 0, false, [.int .i64 S.trace.length, .slice ta S.trace.length tc, .slice (some ⟨b, o, none⟩) 8 rc, .slice ea (j + 1) ec, .slice sa 4 sc]⟩) = F at *
      have hcell : F.get H1.next = some ⟨33, 0, false, [.int .i64 S.trace.length, .slice ta S.trace.length tc, .slice (some ⟨b, o, none⟩) 8 rc, .slice ea (j + 1) ec, .slice sa 4 sc]⟩ := by rw [← hF]; exact get_set_eq hnb1
      refine Wk_loopF (fun m f G => ∃ i, m = j + 1 - i ∧ i ≤ j + 1 ∧ f.get 0 = some (nv j) ∧ f.get 13 = some (.pointer (some ⟨H1.next, 0, none⟩)) ∧ f.get 15 = some (nv i) ∧ G = F) (j + 1) ?_ ?_
      · refine ⟨0, by omega, by omega, ?_, ?_, ?_, rfl⟩
        all_goals simp (config := { implicitDefEqProofs := false, maxDischargeDepth := 6, maxSteps := 1000000 }) only [go_sem, ↓reduceIte, Nat.reduceLT, Nat.reduceLeDiff, Nat.reduceEqDiff, Nat.reduceAdd, Nat.reduceMul, Nat.reduceSub, Nat.reduceBEq, reduceCtorEq, Int.reduceEq, Int.reduceLT, Int.reduceLE, Int.reduceNeg, Int.reduceToNat, f0, nv]
        rfl
      clear f0 f1 f2 f8 f10 f12
      rintro m f G ⟨i, rfl, hi, f0, f13, f15, rfl⟩
      unfold L7_5
      by_cases hlti : i < j + 1
      · have hltZi : (i : Int) ≤ (j : Int) := by omega
        have hltZj : (i : Int) < ((j + 1 : Nat) : Int) := by omega
        have hi0 : (0 : Int) ≤ (i : Int) := by omega
        have hwi : IntKind.i64.wrap ((i : Int) + 1) = ((i + 1 : Nat) : Int) := IntWalk.i64_in _ (by omega)
        obtain ⟨b', o', c', x', hv, hc', hx', hx0', _⟩ := pair_at hends hlti
        simp only [Value.slice.injEq, true_and] at hv
        obtain ⟨rfl, rfl⟩ := hv
        rw [hdone i (by omega)] at hx0'
        simp only [iv] at hx0'
        simp (config := { implicitDefEqProofs := false, maxDischargeDepth := 6, maxSteps := 1000000 }) only [go_sem, ↓reduceIte, Nat.reduceLT, Nat.reduceLeDiff, Nat.reduceEqDiff, Nat.reduceAdd, Nat.reduceMul, Nat.reduceSub, Nat.reduceBEq, reduceCtorEq, Int.reduceEq, Int.reduceLT, Int.reduceLE, Int.reduceNeg, Int.reduceToNat, f0, f13, f15, nv, hltZi, hltZj, hi0, hcell, hc', hx', hx0', hwi, Nat.add_zero]
        refine ⟨j + 1 - (i + 1), by omega, i + 1, rfl, by omega, ?_, ?_, ?_, rfl⟩
        · simp (config := { implicitDefEqProofs := false, maxDischargeDepth := 6, maxSteps := 1000000 }) only [go_sem, ↓reduceIte, Nat.reduceLT, Nat.reduceLeDiff, Nat.reduceEqDiff, Nat.reduceAdd, Nat.reduceMul, Nat.reduceSub, Nat.reduceBEq, reduceCtorEq, Int.reduceEq, Int.reduceLT, Int.reduceLE, Int.reduceNeg, Int.reduceToNat, f0, nv]
        · simp (config := { implicitDefEqProofs := false, maxDischargeDepth := 6, maxSteps := 1000000 }) only [go_sem, ↓reduceIte, Nat.reduceLT, Nat.reduceLeDiff, Nat.reduceEqDiff, Nat.reduceAdd, Nat.reduceMul, Nat.reduceSub, Nat.reduceBEq, reduceCtorEq, Int.reduceEq, Int.reduceLT, Int.reduceLE, Int.reduceNeg, Int.reduceToNat, f13]
        · simp (config := { implicitDefEqProofs := false, maxDischargeDepth := 6, maxSteps := 1000000 }) only [go_sem, ↓reduceIte, Nat.reduceLT, Nat.reduceLeDiff, Nat.reduceEqDiff, Nat.reduceAdd, Nat.reduceMul, Nat.reduceSub, Nat.reduceBEq, reduceCtorEq, Int.reduceEq, Int.reduceLT, Int.reduceLE, Int.reduceNeg, Int.reduceToNat, nv]
      · have hltZi : ¬ (i : Int) ≤ (j : Int) := by omega
        simp (config := { implicitDefEqProofs := false, maxDischargeDepth := 6, maxSteps := 1000000 }) only [go_sem, ↓reduceIte, Nat.reduceLT, Nat.reduceLeDiff, Nat.reduceEqDiff, Nat.reduceAdd, Nat.reduceMul, Nat.reduceSub, Nat.reduceBEq, reduceCtorEq, Int.reduceEq, Int.reduceLT, Int.reduceLE, Int.reduceNeg, Int.reduceToNat, f0, f13, f15, nv, hltZi]
  | false =>
    have z1 : ((wkE false j : Nat) : Int) = (j : Int) := rfl
    have hjj : ¬ (j : Int) < (j : Int) := by omega
    simp (config := { implicitDefEqProofs := false, maxDischargeDepth := 6, maxSteps := 1000000 }) only [go_sem, ↓reduceIte, Nat.reduceLT, Nat.reduceLeDiff, Nat.reduceEqDiff, Nat.reduceAdd, Nat.reduceMul, Nat.reduceSub, Nat.reduceBEq, reduceCtorEq, Int.reduceEq, Int.reduceLT, Int.reduceLE, Int.reduceNeg, Int.reduceToNat, f0, f1, f2, f8, f10, f12, nv, z1, hjj]
    refine Wk_vh ha7 ?_
    obtain ⟨la7, lc7, rfl⟩ := hL7.sl
    obtain ⟨ta7, tc7, rfl⟩ := hM.out.sl
    have hnb7 := hE7.wf.1
    have hEa := (Ext.refl hE7.wf).alloc (⟨45, 0, false, [.slice la7 (wkP false j (wkE false j) ++ [⟨2, 0, 0, 0⟩] : List Act).length lc7]⟩ : Blk)
    obtain ⟨G8, tv8, ha8, hM8⟩ := ((hM.of hE7).of hEa).push (nb := H7.next) ((hL7.lst hM.ext).of hE7.wf hEa) (get_alloc_eq hnb7) (by rw [List.length_replicate]; omega)
    rw [List.length_replicate] at ha8
    simp (config := { implicitDefEqProofs := false, maxDischargeDepth := 6, maxSteps := 1000000 }) only [go_sem, ↓reduceIte, Nat.reduceLT, Nat.reduceLeDiff, Nat.reduceEqDiff, Nat.reduceAdd, Nat.reduceMul, Nat.reduceSub, Nat.reduceBEq, reduceCtorEq, Int.reduceEq, Int.reduceLT, Int.reduceLE, Int.reduceNeg, Int.reduceToNat, f0, f1, f2, f8, nv, List.length_replicate]
    refine Wk_vh ha8 ?_
    simp (config := { implicitDefEqProofs := false, maxDischargeDepth := 6, maxSteps := 1000000 }) only [go_sem, ↓reduceIte, Nat.reduceLT, Nat.reduceLeDiff, Nat.reduceEqDiff, Nat.reduceAdd, Nat.reduceMul, Nat.reduceSub, Nat.reduceBEq, reduceCtorEq, Int.reduceEq, Int.reduceLT, Int.reduceLE, Int.reduceNeg, Int.reduceToNat, f0, f2, nv]
    have hpG := hp0.of fun b x hb => hM8.ext.of hw0 hb
    rw [hpv] at hpG
    refine CW_mono _ (Run_W (ts := cdT false j) hM8.ext.wf hM8.tasks (by rw [cdT, List.length_append, List.length_replicate]; simp; omega) (room := 16) (most := 65536) hpG) ?_
    intro x H1 hR
    obtain ⟨hE1, _, hR⟩ := hR
    obtain ⟨trv, rgv, ev, qsv, qv, rfl, hA⟩ := hR hOk.ask
    rw [show Int.toNat 65536 = 65536 from rfl] at hA ⊢
    have hdone := hOk.done
    have hreg := hOk.reg
    have hSN : (runM 65536 (S0 (cdT false j) 16) picks).N = j + 1 := by
      rw [(runM_N 65536 picks).1]; show (cdT false j).length = _
      rw [cdT, List.length_append, List.length_replicate]; rfl
    generalize runM 65536 (S0 (cdT false j) 16) picks = S at *
    have hw1 := hE1.wf
    have hnb1 := hw1.1
    obtain ⟨ra, rc, rfl⟩ := hA.regs.sl
    obtain ⟨ea, ec, rfl⟩ := hA.ends.sl
    obtain ⟨sa, sc, rfl⟩ := hA.queues.sl
    obtain ⟨ta, tc, rfl⟩ := hA.trace.sl
    have hEF := ((Ext.refl hw1).alloc (⟨33, 0, false, [.int .i64 0, .slice none 0 0, .slice none 0 0, .slice none 0 0, .slice none 0 0]⟩ : Blk)).set (b := H1.next) (Nat.le_refl _) (by simp only [next_alloc]; omega) (⟨33, 0, false, [.int .i64 S.trace.length, .slice ta S.trace.length tc, .slice ra 8 rc, .slice ea (j + 1) ec, .slice sa 4 sc]⟩ : Blk)
    have hAF := hA.of hw1 hEF
    clear hA
    have hrg := hAF.regs.rd.at_ (i := 3) (by simp)
    have hends := hAF.ends
    clear hAF
    rw [hSN] at hends
    have h8 : ((8 : Nat) : Int) = 8 := rfl
    have m1 : IntKind.i64.wrap ((j : Int) + 1) = ((j + 1 : Nat) : Int) := IntWalk.i64_in _ (by omega)
    obtain ⟨b, o, c, x, hv, hc, hx, hx0⟩ := hrg
    simp only [Value.slice.injEq, List.length_map, List.length_range, true_and] at hv
    obtain ⟨rfl, rfl⟩ := hv
    simp only [List.getElem_map, List.getElem_range, iv, hreg] at hx0
    simp (config := { implicitDefEqProofs := false, maxDischargeDepth := 6, maxSteps := 1000000 }) only [go_sem, ↓reduceIte, Nat.reduceLT, Nat.reduceLeDiff, Nat.reduceEqDiff, Nat.reduceAdd, Nat.reduceMul, Nat.reduceSub, Nat.reduceBEq, reduceCtorEq, Int.reduceEq, Int.reduceLT, Int.reduceLE, Int.reduceNeg, Int.reduceToNat, f0, f2, nv, loads_eq, hnb1, hSN, goInt, h8, m1, hc, hx, hx0]
    clear hEF
    generalize hF : (Heap.set (Heap.alloc H1 ⟨33, 0, false, [.int .i64 0, .slice none 0 0, .slice none 0 0, .slice none 0 0, .slice none 0 0]⟩) H1.next ⟨33, 0, false, [.int .i64 S.trace.length, .slice ta S.trace.length tc, .slice (some ⟨b, o, none⟩) 8 rc, .slice ea (j + 1) ec, .slice sa 4 sc]⟩) = F at *
    have hcell : F.get H1.next = some ⟨33, 0, false, [.int .i64 S.trace.length, .slice ta S.trace.length tc, .slice (some ⟨b, o, none⟩) 8 rc, .slice ea (j + 1) ec, .slice sa 4 sc]⟩ := by rw [← hF]; exact get_set_eq hnb1
    refine Wk_loopF (fun m f G => ∃ i, m = j + 1 - i ∧ i ≤ j + 1 ∧ f.get 0 = some (nv j) ∧ f.get 13 = some (.pointer (some ⟨H1.next, 0, none⟩)) ∧ f.get 15 = some (nv i) ∧ G = F) (j + 1) ?_ ?_
    · refine ⟨0, by omega, by omega, ?_, ?_, ?_, rfl⟩
      all_goals simp (config := { implicitDefEqProofs := false, maxDischargeDepth := 6, maxSteps := 1000000 }) only [go_sem, ↓reduceIte, Nat.reduceLT, Nat.reduceLeDiff, Nat.reduceEqDiff, Nat.reduceAdd, Nat.reduceMul, Nat.reduceSub, Nat.reduceBEq, reduceCtorEq, Int.reduceEq, Int.reduceLT, Int.reduceLE, Int.reduceNeg, Int.reduceToNat, f0, nv]
      rfl
    clear f0 f1 f2 f8 f10 f12
    rintro m f G ⟨i, rfl, hi, f0, f13, f15, rfl⟩
    unfold L7_5
    by_cases hlti : i < j + 1
    · have hltZi : (i : Int) ≤ (j : Int) := by omega
      have hltZj : (i : Int) < ((j + 1 : Nat) : Int) := by omega
      have hi0 : (0 : Int) ≤ (i : Int) := by omega
      have hwi : IntKind.i64.wrap ((i : Int) + 1) = ((i + 1 : Nat) : Int) := IntWalk.i64_in _ (by omega)
      obtain ⟨b', o', c', x', hv, hc', hx', hx0', _⟩ := pair_at hends hlti
      simp only [Value.slice.injEq, true_and] at hv
      obtain ⟨rfl, rfl⟩ := hv
      rw [hdone i (by omega)] at hx0'
      simp only [iv] at hx0'
      simp (config := { implicitDefEqProofs := false, maxDischargeDepth := 6, maxSteps := 1000000 }) only [go_sem, ↓reduceIte, Nat.reduceLT, Nat.reduceLeDiff, Nat.reduceEqDiff, Nat.reduceAdd, Nat.reduceMul, Nat.reduceSub, Nat.reduceBEq, reduceCtorEq, Int.reduceEq, Int.reduceLT, Int.reduceLE, Int.reduceNeg, Int.reduceToNat, f0, f13, f15, nv, hltZi, hltZj, hi0, hcell, hc', hx', hx0', hwi, Nat.add_zero]
      refine ⟨j + 1 - (i + 1), by omega, i + 1, rfl, by omega, ?_, ?_, ?_, rfl⟩
      · simp (config := { implicitDefEqProofs := false, maxDischargeDepth := 6, maxSteps := 1000000 }) only [go_sem, ↓reduceIte, Nat.reduceLT, Nat.reduceLeDiff, Nat.reduceEqDiff, Nat.reduceAdd, Nat.reduceMul, Nat.reduceSub, Nat.reduceBEq, reduceCtorEq, Int.reduceEq, Int.reduceLT, Int.reduceLE, Int.reduceNeg, Int.reduceToNat, f0, nv]
      · simp (config := { implicitDefEqProofs := false, maxDischargeDepth := 6, maxSteps := 1000000 }) only [go_sem, ↓reduceIte, Nat.reduceLT, Nat.reduceLeDiff, Nat.reduceEqDiff, Nat.reduceAdd, Nat.reduceMul, Nat.reduceSub, Nat.reduceBEq, reduceCtorEq, Int.reduceEq, Int.reduceLT, Int.reduceLE, Int.reduceNeg, Int.reduceToNat, f13]
      · simp (config := { implicitDefEqProofs := false, maxDischargeDepth := 6, maxSteps := 1000000 }) only [go_sem, ↓reduceIte, Nat.reduceLT, Nat.reduceLeDiff, Nat.reduceEqDiff, Nat.reduceAdd, Nat.reduceMul, Nat.reduceSub, Nat.reduceBEq, reduceCtorEq, Int.reduceEq, Int.reduceLT, Int.reduceLE, Int.reduceNeg, Int.reduceToNat, nv]
    · have hltZi : ¬ (i : Int) ≤ (j : Int) := by omega
      simp (config := { implicitDefEqProofs := false, maxDischargeDepth := 6, maxSteps := 1000000 }) only [go_sem, ↓reduceIte, Nat.reduceLT, Nat.reduceLeDiff, Nat.reduceEqDiff, Nat.reduceAdd, Nat.reduceMul, Nat.reduceSub, Nat.reduceBEq, reduceCtorEq, Int.reduceEq, Int.reduceLT, Int.reduceLE, Int.reduceNeg, Int.reduceToNat, f0, f13, f15, nv, hltZi]
end Go.Am.T
