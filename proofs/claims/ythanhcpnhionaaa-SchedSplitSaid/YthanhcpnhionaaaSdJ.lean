/- The walks of the scheduler's functions: begun. Conditions: those of each theorem. -/
import Derived.Test.YthanhcpnhionaaaSdI
set_option linter.all false
set_option linter.unusedSimpArgs false
set_option linter.unusedVariables false
namespace Go.Am.T
open Go Go.Am Go.Proofs.Ythanhcpnhionaaa Go.Proofs

/- tasks in memory -/
structure TasksAt (H : Heap) (tv : Value) (ts : List (List Act)) (av : Nat → Value) : Prop where
  rd : RdI H tv ((List.range ts.length).map av)
  acts : ∀ i (h : i < ts.length), ActsAt H (av i) ts[i]

def tk0 (l : List Act) : Tk := { acts := l, at_ := 0, guard := -1, wait := 0, died := false, n := 0 }
def S0 (ts : List (List Act)) (room : Int) : Sx :=
  { N := ts.length, tk := fun i => tk0 (ts.getD i []), room := room, locks := fun _ => -1, conds := fun _ => [], queues := fun _ => [], regs := fun _ => 0, last := -1, trace := [] }
def R0 (room : Int) (tv : Value) (k : Nat) : RunV :=
  { tasks := tv, room := room, locks := fun j => if j < k then -1 else 0, conds := fun _ => .slice none 0 0, queues := fun _ => .slice none 0 0, regs := fun _ => 0, last := -1, trace := .slice none 0 0 }
def ptrs (ta : Nat → Nat) (k : Nat) : List Value := (List.range k).map fun i => .pointer (some ⟨ta i, 0, none⟩)

theorem R0_lock {room : Int} {tv : Value} {k : Nat} : { R0 room tv k with locks := upd (R0 room tv k).locks k (-1) } = R0 room tv (k + 1) := by
  have : upd (R0 room tv k).locks k (-1) = (R0 room tv (k + 1)).locks := by
    funext j
    unfold upd R0
    dsimp only
    by_cases e : j = k
    · subst e; rw [if_pos rfl, if_pos (by omega)]
    · rw [if_neg e]
      by_cases h : j < k
      · rw [if_pos h, if_pos (by omega)]
      · rw [if_neg h, if_neg (by omega)]
  rw [this]; rfl
theorem ptrs_succ {ta : Nat → Nat} {k : Nat} : ptrs ta (k + 1) = ptrs ta k ++ [.pointer (some ⟨ta k, 0, none⟩)] := by
  unfold ptrs; rw [List.range_succ, List.map_append]; rfl
theorem ptrs_congr {ta tb : Nat → Nat} {k : Nat} (h : ∀ i, i < k → ta i = tb i) : ptrs ta k = ptrs tb k := by
  unfold ptrs
  apply List.map_congr_left
  intro i hi
  rw [h i (List.mem_range.1 hi)]

/- the tasks made so far -/
structure Made (H : Heap) (av : Nat → Value) (ts : List (List Act)) (room : Int) (k : Nat) (H1 : Heap) (tv1 : Value) (ta : Nat → Nat) : Prop where
  ext : Ext H H1
  run : H1.get H.next = some (runB (R0 room tv1 4))
  own : OwnL (fun b => H.next ≤ b) H1 1 77 tv1 k (ptrs ta k)
  task : ∀ i, i < k → H1.get (ta i) = some (taskB (tkV (av i) (tk0 (ts.getD i []))))
  ge : ∀ i, i < k → H.next ≤ ta i
  inj : ∀ i j, i < k → j < k → ta i = ta j → i = j

/- the memory of a run that has begun -/
theorem made_rep {H : Heap} (hw : WF H) {tv : Value} {ts : List (List Act)} {av : Nat → Value} (ht : TasksAt H tv ts av) {room : Int} {H1 : Heap} {tv1 : Value} {ta : Nat → Nat} (hM : Made H av ts room ts.length H1 tv1 ta) :
    ∃ r M, CR.ret (.pointer (some ⟨H.next, 0, none⟩)) = .ret (.pointer (some ⟨r, 0, none⟩)) ∧ Rep H1 r M (S0 ts room) ∧ Ext H H1 ∧ (∀ b, b < H.next → M.own b = none) ∧ ∀ i, i < ts.length → M.av i = av i := by
  obtain ⟨ab, hab⟩ : ∃ ab : Option Nat, ∀ b, ab = some b ↔ ∃ o n c, tv1 = .slice (some ⟨b, o, none⟩) n c := by
    cases tv1 with
    | slice a n c =>
      cases a with
      | none => exact ⟨none, fun b => by simp⟩
      | some a =>
        obtain ⟨b, o, sp⟩ := a
        cases sp with
        | none => exact ⟨some b, fun b' => by simp⟩
        | some q => exact ⟨none, fun b => by simp⟩
    | _ => exact ⟨none, fun b => by simp⟩
  have hblk : ∀ b, ab = some b → ∃ x, H1.get b = some x ∧ x.opn = true ∧ H.next ≤ b := by
    intro b hb
    obtain ⟨o, n, c, e⟩ := (hab b).1 hb
    rcases hM.own with ⟨e2, _⟩ | ⟨b', o', pre, e2, _, h3, h4, _⟩
    · rw [e] at e2; cases e2
    · rw [e] at e2; simp only [Value.slice.injEq, Option.some.injEq, Addr.mk.injEq] at e2
      obtain ⟨⟨rfl, _⟩, _⟩ := e2
      exact ⟨_, h4, rfl, h3⟩
  let own : Nat → Option Role := fun b => if b = H.next then some .run else if ab = some b then some .arr else ((List.range ts.length).find? fun i => decide (ta i = b)).map .task
  have own_r : own H.next = some .run := by simp [own]
  have own_a : ∀ b, ab = some b → own b = some .arr := by
    intro b hb
    have : b ≠ H.next := by
      intro e; subst e
      obtain ⟨x, hx, ho, _⟩ := hblk _ hb
      rw [hM.run] at hx; cases hx; cases ho
    simp [own, this, hb]
  have own_t : ∀ i, i < ts.length → own (ta i) = some (.task i) := by
    intro i hi
    have h1 : ta i ≠ H.next := by
      intro e; have := hM.task i hi; rw [e, hM.run] at this; simp [runB, taskB] at this
    have h2 : ab ≠ some (ta i) := by
      intro e; obtain ⟨x, hx, ho, _⟩ := hblk _ e
      rw [hM.task i hi] at hx; cases hx; cases ho
    have h3 : (List.range ts.length).find? (fun j => decide (ta j = ta i)) = some i := by
      rw [List.find?_eq_some_iff_getElem]
      refine ⟨by simp, i, by simpa using hi, by simp, ?_⟩
      intro j hj
      simp only [List.getElem_range, Bool.not_eq_true', decide_eq_false_iff_not]
      intro e; have := hM.inj j i (by omega) hi e; omega
    simp only [own, h1, h2, if_false, h3, Option.map_some]
  have own_lt : ∀ b, own b ≠ none → H.next ≤ b ∧ b < H1.next := by
    intro b hb
    by_cases e1 : b = H.next
    · subst e1; exact ⟨Nat.le_refl _, hM.ext.wf.lt hM.run⟩
    · by_cases e2 : ab = some b
      · obtain ⟨x, hx, _, hge⟩ := hblk _ e2
        exact ⟨hge, hM.ext.wf.lt hx⟩
      · simp only [own, e1, e2, if_false] at hb
        cases hf : (List.range ts.length).find? (fun i => decide (ta i = b)) with
        | none => rw [hf] at hb; exact absurd rfl hb
        | some i =>
          have h1 := List.find?_some hf
          have h2 := List.mem_of_find?_eq_some hf
          simp only [decide_eq_true_eq] at h1
          rw [List.mem_range] at h2
          subst h1
          exact ⟨hM.ge i h2, hM.ext.wf.lt (hM.task i h2)⟩
  have own_no : ∀ b, b < H.next → own b = none := by
    intro b hb
    by_cases e : own b = none
    · exact e
    · have := (own_lt b e).1; omega
  refine ⟨H.next, { own := own, ta := ta, av := av, tv := tv1, cv := fun _ => .slice none 0 0, qv := fun _ => .slice none 0 0, trv := .slice none 0 0 }, rfl, ⟨hM.ext.wf, hM.run.trans ?_, own_r, hw.1, fun b hb => (own_lt b hb).2, ?_, ?_, own_t, fun i hi => Nat.le_trans hw.1 (hM.ge i hi), ?_, ?_, ?_, ?_⟩, hM.ext, own_no, fun i _ => rfl⟩
  · rfl
  · obtain ⟨a, c, e, k⟩ := hM.own.rd
    have hl : (ptrs ta ts.length).length = ts.length := by simp [ptrs]
    rw [hl] at e
    refine ⟨a, c, e, fun hN => ?_⟩
    obtain ⟨hc, b, o, x, rfl, hx, q⟩ := k (by intro e; rw [e] at hl; exact hN hl.symm)
    refine ⟨hc, b, o, x, rfl, own_a b ((hab b).2 ⟨o, _, c, e⟩), hx, fun i hi => ?_⟩
    have := q i (by rw [hl]; exact hi)
    rw [this]
    simp [ptrs]
  · exact hM.task
  · intro i hi
    have hi' : i < ts.length := hi
    have hgd : ((S0 ts room).tk i).acts = ts[i] := by simp [S0, tk0, hi']
    rw [hgd]
    obtain ⟨a, c, e, k⟩ := ht.acts i hi'
    refine ⟨a, c, e, fun hl => ?_⟩
    obtain ⟨hc, b, o, x, ha, hx, q⟩ := k hl
    exact ⟨hc, b, o, x, ha, hM.ext.of hw hx, own_no b (hw.lt hx), q⟩
  · intro j _ _; exact .inl ⟨rfl, rfl, rfl⟩
  · intro j _ _; exact .inl ⟨rfl, rfl, rfl⟩
  · intro _; exact .inl ⟨rfl, rfl, rfl⟩

theorem begun_W {H : Heap} (hw : WF H) {tv : Value} {ts : List (List Act)} {av : Nat → Value} (ht : TasksAt H tv ts av) {room : Int} (hN : ts.length ≤ 65536) :
   CW Try.prog 29 #[tv, .int .i64 room] H fun x H' => ∃ r M, x = .ret (.pointer (some ⟨r, 0, none⟩)) ∧ Rep H' r M (S0 ts room) ∧ Ext H H' ∧ (∀ b, b < H.next → M.own b = none) ∧ ∀ i, i < ts.length → M.av i = av i := by
  refine CW_k (n := 41) if29 rfl ?_
  unfold C29
  have hnb := hw.1
  simp (config := { implicitDefEqProofs := false, maxDischargeDepth := 6, maxSteps := 1000000 }) only [go_sem, ↓reduceIte, Nat.reduceLT, Nat.reduceLeDiff, Nat.reduceEqDiff, Nat.reduceAdd, Nat.reduceMul, Nat.reduceSub, Nat.reduceBEq, reduceCtorEq, Int.reduceEq, Int.reduceLT, Int.reduceLE, Int.reduceNeg, Int.reduceToNat, ]
  have hE0 := (Ext.refl hw).alloc (runB (R0 room (.slice none 0 0) 0))
  have hg0 : (H.alloc (runB (R0 room (.slice none 0 0) 0))).get H.next = some (runB (R0 room (.slice none 0 0) 0)) := get_alloc_eq hnb
  refine Wk_loopF (fun m f H1 => ∃ k, m = 4 - k ∧ k ≤ 4 ∧ f.get 0 = some tv ∧ f.get 5 = some (.pointer (some ⟨H.next, 0, none⟩)) ∧ f.get 12 = some (nv k) ∧ Ext H H1 ∧ H1.get H.next = some (runB (R0 room (.slice none 0 0) k))) 4 ?_ ?_
  · refine ⟨0, by omega, by omega, ?_, ?_, ?_, hE0, hg0⟩
    all_goals simp (config := { implicitDefEqProofs := false, maxDischargeDepth := 6, maxSteps := 1000000 }) only [go_sem, ↓reduceIte, Nat.reduceLT, Nat.reduceLeDiff, Nat.reduceEqDiff, Nat.reduceAdd, Nat.reduceMul, Nat.reduceSub, Nat.reduceBEq, reduceCtorEq, Int.reduceEq, Int.reduceLT, Int.reduceLE, Int.reduceNeg, Int.reduceToNat, nv]
    rfl
  rintro m f H1 ⟨k, rfl, hk, f0, f5, f12, hE1, hg1⟩
  have hrl := hE1.wf.lt hg1
  unfold L29_1
  by_cases hlt : k < 4
  · have hltZ : (k : Int) < 4 := by omega
    have hk0 : (0 : Int) ≤ (k : Int) := by omega
    have hw1 : IntKind.i64.wrap ((k : Int) + 1) = ((k + 1 : Nat) : Int) := IntWalk.i64_in _ (by omega)
    simp (config := { implicitDefEqProofs := false, maxDischargeDepth := 6, maxSteps := 1000000 }) only [go_sem, ↓reduceIte, Nat.reduceLT, Nat.reduceLeDiff, Nat.reduceEqDiff, Nat.reduceAdd, Nat.reduceMul, Nat.reduceSub, Nat.reduceBEq, reduceCtorEq, Int.reduceEq, Int.reduceLT, Int.reduceLE, Int.reduceNeg, Int.reduceToNat, f0, f5, f12, nv, hltZ, hk0, hlt, hg1, hnb, hw1]
    refine ⟨4 - (k + 1), by omega, k + 1, rfl, by omega, ?_, ?_, ?_, ?_, ?_⟩
    · simp (config := { implicitDefEqProofs := false, maxDischargeDepth := 6, maxSteps := 1000000 }) only [go_sem, ↓reduceIte, Nat.reduceLT, Nat.reduceLeDiff, Nat.reduceEqDiff, Nat.reduceAdd, Nat.reduceMul, Nat.reduceSub, Nat.reduceBEq, reduceCtorEq, Int.reduceEq, Int.reduceLT, Int.reduceLE, Int.reduceNeg, Int.reduceToNat, f0]
    · simp (config := { implicitDefEqProofs := false, maxDischargeDepth := 6, maxSteps := 1000000 }) only [go_sem, ↓reduceIte, Nat.reduceLT, Nat.reduceLeDiff, Nat.reduceEqDiff, Nat.reduceAdd, Nat.reduceMul, Nat.reduceSub, Nat.reduceBEq, reduceCtorEq, Int.reduceEq, Int.reduceLT, Int.reduceLE, Int.reduceNeg, Int.reduceToNat, f5]
    · simp (config := { implicitDefEqProofs := false, maxDischargeDepth := 6, maxSteps := 1000000 }) only [go_sem, ↓reduceIte, Nat.reduceLT, Nat.reduceLeDiff, Nat.reduceEqDiff, Nat.reduceAdd, Nat.reduceMul, Nat.reduceSub, Nat.reduceBEq, reduceCtorEq, Int.reduceEq, Int.reduceLT, Int.reduceLE, Int.reduceNeg, Int.reduceToNat, nv]
    · exact hE1.set (Nat.le_refl _) hrl _
    · rw [get_set_eq hnb, ← R0_lock]
  have hltZ : ¬ (k : Int) < 4 := by omega
  obtain rfl : k = 4 := by omega
  obtain ⟨ta0, tc0, htv, htr⟩ := id ht.rd
  simp only [List.length_map, List.length_range] at htv
  simp (config := { implicitDefEqProofs := false, maxDischargeDepth := 6, maxSteps := 1000000 }) only [go_sem, ↓reduceIte, Nat.reduceLT, Nat.reduceLeDiff, Nat.reduceEqDiff, Nat.reduceAdd, Nat.reduceMul, Nat.reduceSub, Nat.reduceBEq, reduceCtorEq, Int.reduceEq, Int.reduceLT, Int.reduceLE, Int.reduceNeg, Int.reduceToNat, f0, f5, f12, nv, hltZ, htv, goInt]
  refine Wk_loopF (fun m f H1 => ∃ k tv1 ta, m = ts.length - k ∧ k ≤ ts.length ∧ f.get 5 = some (.pointer (some ⟨H.next, 0, none⟩)) ∧ f.get 21 = some (.slice ta0 ts.length tc0) ∧ f.get 22 = some (nv ts.length) ∧ f.get 23 = some (nv k) ∧ Made H av ts room k H1 tv1 ta) ts.length ?_ ?_
  · refine ⟨0, .slice none 0 0, fun _ => 0, by omega, by omega, ?_, ?_, ?_, ?_, hE1, hg1, .inl ⟨rfl, rfl, rfl⟩, fun i hi => absurd hi (by omega), fun i hi => absurd hi (by omega), fun i j hi => absurd hi (by omega)⟩
    all_goals simp (config := { implicitDefEqProofs := false, maxDischargeDepth := 6, maxSteps := 1000000 }) only [go_sem, ↓reduceIte, Nat.reduceLT, Nat.reduceLeDiff, Nat.reduceEqDiff, Nat.reduceAdd, Nat.reduceMul, Nat.reduceSub, Nat.reduceBEq, reduceCtorEq, Int.reduceEq, Int.reduceLT, Int.reduceLE, Int.reduceNeg, Int.reduceToNat, nv, f5]
    rfl
  rintro m f H1 ⟨k, tv1, ta, rfl, hk, f5, f21, f22, f23, hM⟩
  unfold L29_2
  by_cases hlt : k < ts.length
  · have hltZ : (k : Int) < (ts.length : Int) := by omega
    have hk0 : (0 : Int) ≤ (k : Int) := by omega
    have hw1 : IntKind.i64.wrap ((k : Int) + 1) = ((k + 1 : Nat) : Int) := IntWalk.i64_in _ (by omega)
    obtain ⟨b, o, c, x, hv, hc, hx, hxk⟩ := ht.rd.at_ (i := k) (by simpa using hlt)
    rw [htv] at hv
    simp only [Value.slice.injEq, List.length_map, List.length_range, true_and] at hv
    obtain ⟨rfl, rfl⟩ := hv
    simp only [List.getElem_map, List.getElem_range] at hxk
    obtain ⟨aa, ac, hav⟩ := (ht.acts k hlt).len
    have hx1 := hM.ext.of hw hx
    have hr1 := hM.run
    have hrl := hM.ext.wf.lt hr1
    have hnb1 := hM.ext.wf.1
    have hxl := hM.ext.wf.lt hx1
    obtain ⟨va, vc, rfl⟩ := hM.own.sl
    simp (config := { implicitDefEqProofs := false, maxDischargeDepth := 6, maxSteps := 1000000 }) only [go_sem, ↓reduceIte, Nat.reduceLT, Nat.reduceLeDiff, Nat.reduceEqDiff, Nat.reduceAdd, Nat.reduceMul, Nat.reduceSub, Nat.reduceBEq, reduceCtorEq, Int.reduceEq, Int.reduceLT, Int.reduceLE, Int.reduceNeg, Int.reduceToNat, f5, f21, f22, f23, nv, hltZ, hk0, hc, hx1, hxk, hr1, hrl, hnb1, hxl, R0, hav]
    have hgd : ts.getD k [] = ts[k] := by simp [hlt]
    have hE2 := (hM.ext.alloc (taskB (tkV (av k) (tk0 (ts.getD k []))))).alloc (⟨77, 0, false, [.pointer (some ⟨H1.next, 0, none⟩)]⟩ : Blk)
    have hk2 : ∀ b x, H1.get b = some x → ((H1.alloc (taskB (tkV (av k) (tk0 (ts.getD k []))))).alloc (⟨77, 0, false, [.pointer (some ⟨H1.next, 0, none⟩)]⟩ : Blk)).get b = some x := fun b x hb => ((((Ext.refl hM.ext.wf).alloc _).alloc _).of hM.ext.wf hb)
    have hO2 := hM.own.frame (p' := fun b => H.next ≤ b) fun b x hb hg => ⟨hb, hk2 b x hg⟩
    have hgt : ((H1.alloc (taskB (tkV (av k) (tk0 (ts.getD k []))))).alloc (⟨77, 0, false, [.pointer (some ⟨H1.next, 0, none⟩)]⟩ : Blk)).get H1.next = some (taskB (tkV (av k) (tk0 (ts.getD k [])))) := by
      rw [get_alloc_ne (by simp only [next_alloc]; omega), get_alloc_eq hnb1]
    obtain ⟨H6, ha6, hE6, hO6, hn6, hk6⟩ := appO (bytes := 8) (nb := H1.next + 1) (x := ⟨77, 0, false, [.pointer (some ⟨H1.next, 0, none⟩)]⟩) (vs := [.pointer (some ⟨H1.next, 0, none⟩)]) hE2 hO2
      (get_alloc_at (by simp only [next_alloc]; omega) (by simp only [next_alloc])) rfl rfl (by omega) rfl (by omega) (by omega)
    simp only [next_alloc] at ha6 hE6 hO6 hn6
    have ha6' := ha6
    simp only [hgd, hav] at ha6'
    refine Wk_vh ha6' ?_
    have hr6 := hk6 _ _ (hk2 _ _ hr1) (.inl rfl)
    simp (config := { implicitDefEqProofs := false, maxDischargeDepth := 6, maxSteps := 1000000 }) only [go_sem, ↓reduceIte, Nat.reduceLT, Nat.reduceLeDiff, Nat.reduceEqDiff, Nat.reduceAdd, Nat.reduceMul, Nat.reduceSub, Nat.reduceBEq, reduceCtorEq, Int.reduceEq, Int.reduceLT, Int.reduceLE, Int.reduceNeg, Int.reduceToNat, f5, f21, f22, f23, nv, hr6, hnb, hw1]
    have htr : ∀ i, i < k → upd ta k H1.next i = ta i := fun i hi => upd_ne (by omega)
    refine ⟨ts.length - (k + 1), by omega, k + 1, .slice (some ⟨H1.next + 1 + 1, 0, none⟩) (k + 1) openCap, upd ta k H1.next, rfl, by omega, ?_, ?_, ?_, ?_, ⟨?_, ?_, ?_, ?_, ?_, ?_⟩⟩
    · simp (config := { implicitDefEqProofs := false, maxDischargeDepth := 6, maxSteps := 1000000 }) only [go_sem, ↓reduceIte, Nat.reduceLT, Nat.reduceLeDiff, Nat.reduceEqDiff, Nat.reduceAdd, Nat.reduceMul, Nat.reduceSub, Nat.reduceBEq, reduceCtorEq, Int.reduceEq, Int.reduceLT, Int.reduceLE, Int.reduceNeg, Int.reduceToNat, f5]
    · simp (config := { implicitDefEqProofs := false, maxDischargeDepth := 6, maxSteps := 1000000 }) only [go_sem, ↓reduceIte, Nat.reduceLT, Nat.reduceLeDiff, Nat.reduceEqDiff, Nat.reduceAdd, Nat.reduceMul, Nat.reduceSub, Nat.reduceBEq, reduceCtorEq, Int.reduceEq, Int.reduceLT, Int.reduceLE, Int.reduceNeg, Int.reduceToNat, f21]
    · simp (config := { implicitDefEqProofs := false, maxDischargeDepth := 6, maxSteps := 1000000 }) only [go_sem, ↓reduceIte, Nat.reduceLT, Nat.reduceLeDiff, Nat.reduceEqDiff, Nat.reduceAdd, Nat.reduceMul, Nat.reduceSub, Nat.reduceBEq, reduceCtorEq, Int.reduceEq, Int.reduceLT, Int.reduceLE, Int.reduceNeg, Int.reduceToNat, f22, nv]
    · simp (config := { implicitDefEqProofs := false, maxDischargeDepth := 6, maxSteps := 1000000 }) only [go_sem, ↓reduceIte, Nat.reduceLT, Nat.reduceLeDiff, Nat.reduceEqDiff, Nat.reduceAdd, Nat.reduceMul, Nat.reduceSub, Nat.reduceBEq, reduceCtorEq, Int.reduceEq, Int.reduceLT, Int.reduceLE, Int.reduceNeg, Int.reduceToNat, nv]
    · exact hE6.set (Nat.le_refl _) (by have := hE6.wf.lt hr6; exact this) _
    · exact get_set_eq hnb
    · rw [ptrs_succ, upd_same, ptrs_congr htr]
      refine hO6.frameO fun b x hb hg ho => ⟨hb, ?_⟩
      rw [get_set_ne]
      · exact hg
      · intro e; subst e
        rw [hr6] at hg
        cases hg; cases ho.1
    · intro i hi
      have hne : upd ta k H1.next i ≠ H.next := by
        by_cases e : i = k
        · subst e; rw [upd_same]; omega
        · rw [htr i (by omega)]; intro e2
          have := hM.task i (by omega)
          rw [e2, hr1] at this; simp [runB, taskB] at this
      rw [get_set_ne hne]
      by_cases e : i = k
      · subst e; rw [upd_same]; exact hk6 _ _ hgt (.inl rfl)
      · rw [htr i (by omega)]; exact hk6 _ _ (hk2 _ _ (hM.task i (by omega))) (.inl rfl)
    · intro i hi
      by_cases e : i = k
      · subst e; rw [upd_same]; exact hM.ext.le
      · rw [htr i (by omega)]; exact hM.ge i (by omega)
    · intro i j hi hj hij
      have hlt2 : ∀ i, i < k → ta i < H1.next := fun i hi => hM.ext.wf.lt (hM.task i hi)
      by_cases e : i = k
      · by_cases e2 : j = k
        · omega
        · subst e; rw [upd_same, htr j (by omega)] at hij
          have := hlt2 j (by omega); omega
      · by_cases e2 : j = k
        · subst e2; rw [upd_same, htr i (by omega)] at hij
          have := hlt2 i (by omega); omega
        · rw [htr i (by omega), htr j (by omega)] at hij
          exact hM.inj i j (by omega) (by omega) hij
  · have hltZ : ¬ (k : Int) < (ts.length : Int) := by omega
    obtain rfl : k = ts.length := by omega
    simp (config := { implicitDefEqProofs := false, maxDischargeDepth := 6, maxSteps := 1000000 }) only [go_sem, ↓reduceIte, Nat.reduceLT, Nat.reduceLeDiff, Nat.reduceEqDiff, Nat.reduceAdd, Nat.reduceMul, Nat.reduceSub, Nat.reduceBEq, reduceCtorEq, Int.reduceEq, Int.reduceLT, Int.reduceLE, Int.reduceNeg, Int.reduceToNat, f5, f21, f22, f23, nv, hltZ]
    exact made_rep hw ht hM
end Go.Am.T
