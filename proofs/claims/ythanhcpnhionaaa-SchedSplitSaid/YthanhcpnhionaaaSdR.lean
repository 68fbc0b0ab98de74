/- The walk of the law SchedQueues. Conditions: those of each theorem. -/
import Derived.Test.YthanhcpnhionaaaSdQ
set_option linter.all false
set_option linter.unusedSimpArgs false
set_option linter.unusedVariables false
namespace Go.Am.T
open Go Go.Am Go.Proofs.Ythanhcpnhionaaa Go.Proofs

/- two lists of acts, each in a block of its own -/
structure Two (H0 H : Heap) (v1 : Value) (l1 : List Act) (v2 : Value) (l2 : List Act) : Prop where
  ext : Ext H0 H
  ex : ∃ p1 p2 : Nat → Prop, (∀ b, p1 b → H0.next ≤ b) ∧ (∀ b, p2 b → H0.next ≤ b) ∧ (∀ b, p1 b → ¬ p2 b) ∧ OwnL p1 H 4 47 v1 l1.length (actC l1) ∧ OwnL p2 H 4 47 v2 l2.length (actC l2)
theorem Two.swap {H0 H : Heap} {v1 v2 : Value} {l1 l2 : List Act} (h : Two H0 H v1 l1 v2 l2) : Two H0 H v2 l2 v1 l1 := by
  obtain ⟨e, p1, p2, a, b, c, d, f⟩ := h
  exact ⟨e, p2, p1, b, a, fun x h2 h1 => c x h1 h2, f, d⟩
theorem Two.nil {H0 H : Heap} (h : Ext H0 H) : Two H0 H (.slice none 0 0) [] (.slice none 0 0) [] :=
  ⟨h, fun _ => False, fun _ => False, fun _ h => h.elim, fun _ h => h.elim, fun _ h => h.elim, .inl ⟨rfl, rfl, rfl⟩, .inl ⟨rfl, rfl, rfl⟩⟩
theorem Two.sl {H0 H : Heap} {v1 v2 : Value} {l1 l2 : List Act} (h : Two H0 H v1 l1 v2 l2) : ∃ a c, v1 = .slice a l1.length c := by
  obtain ⟨_, p1, p2, a, b, c, d, f⟩ := h
  exact d.sl
theorem Two.of {H0 H H' : Heap} {v1 v2 : Value} {l1 l2 : List Act} (h : Two H0 H v1 l1 v2 l2) (e : Ext H H') : Two H0 H' v1 l1 v2 l2 := by
  obtain ⟨e0, p1, p2, a, b, c, d, f⟩ := h
  exact ⟨e0.trans e, p1, p2, a, b, c, d.frame fun b x hb hg => ⟨hb, e.of e0.wf hg⟩, f.frame fun b x hb hg => ⟨hb, e.of e0.wf hg⟩⟩
theorem Two.push {H0 G : Heap} {la : Option Addr} {lc m : Nat} {l1 l2 new : List Act} {v2 : Value} {cells : List Value} (h : Two H0 G (.slice la l1.length lc) l1 v2 l2) (hc : cells = actC new) (hm : m = new.length) (h0 : new ≠ [])
    (hb : l1.length + new.length ≤ 1000000) :
    ∃ H6 lv', appS (G.alloc ⟨47, 0, false, cells⟩) 47 4 32 la l1.length lc (.slice (some ⟨G.next, 0, none⟩) m m) = some (lv', H6) ∧ Two H0 H6 lv' (l1 ++ new) v2 l2 := by
  subst hc hm
  obtain ⟨hE, p1, p2, q1, q2, q3, h1, h2⟩ := h
  have hm0 : new.length ≠ 0 := fun e => h0 (List.eq_nil_of_length_eq_zero e)
  have hnb := hE.wf.1
  have hEa : Ext G (G.alloc ⟨47, 0, false, actC new⟩) := (Ext.refl hE.wf).alloc _
  have h1' : OwnL (fun b => H0.next ≤ b) (G.alloc ⟨47, 0, false, actC new⟩) 4 47 (.slice la l1.length lc) l1.length (actC l1) := h1.frame fun b x hb hg => ⟨q1 b hb, hEa.of hE.wf hg⟩
  refine ⟨_, _, appS_ownM h1' (get_alloc_eq hnb) rfl (actC_len new) (by omega) hm0 (actC_one new) (by omega) (by omega), Ext.app (hE.trans hEa) h1' _, fun b => b = G.next + 1, fun b => p2 b ∧ b < G.next, ?_, fun b hb => q2 b hb.1, fun b hb hb2 => by omega, ?_, ?_⟩
  · intro b hb
    have := hE.le; omega
  · rw [List.length_append, actC_app]
    refine .inr ⟨G.next + 1, 0, [], rfl, by omega, rfl, ?_, rfl, ?_⟩
    · rw [get_alloc_at (by rw [next_delV]; show base0 ≤ G.next + 1; omega) (by rw [next_delV]; rfl)]; rfl
    · simp [actC_len, Nat.add_mul]
  · refine h2.frame fun b x hb hg => ⟨⟨hb, hE.wf.lt hg⟩, ?_⟩
    have hlt := hE.wf.lt hg
    rw [get_alloc_ne (by rw [next_delV]; show b ≠ G.next + 1; omega)]
    rcases h1 with ⟨e, _⟩ | ⟨b', o, pre, e, _, hp, h4, _⟩
    · simp only [Value.slice.injEq] at e
      obtain ⟨rfl, _⟩ := e
      exact hEa.of hE.wf hg
    · simp only [Value.slice.injEq] at e
      obtain ⟨rfl, _⟩ := e
      show ((G.alloc _).del b').get b = _
      rw [get_del_ne]
      · exact hEa.of hE.wf hg
      · intro e2; subst e2; exact q3 _ hp hb
theorem Two.tasks {H0 H : Heap} {v1 v2 : Value} {l1 l2 : List Act} (h : Two H0 H v1 l1 v2 l2) {b : Nat} (hb : H.get b = some ⟨45, 0, false, [v1, v2]⟩) : TasksAt H (.slice (some ⟨b, 0, none⟩) 2 2) [l1, l2] fun i => if i = 0 then v1 else v2 := by
  obtain ⟨_, p1, p2, _, _, _, h1, h2⟩ := h
  refine ⟨⟨_, 2, rfl, fun _ => ⟨by omega, b, 0, _, rfl, hb, fun i hi => ?_⟩⟩, fun i hi => ?_⟩
  · have hi : i < 2 := by simpa using hi
    match i, hi with
    | 0, _ => rfl
    | 1, _ => rfl
  · match i, hi with
    | 0, _ => exact h1.acts
    | 1, _ => exact h2.acts

theorem trC_at : ∀ (l : List (Nat × Nat)) (i : Nat) (h : i < l.length), (trC l)[i * 2]? = some (nv l[i].1)
  | [], _, h => by cases h
  | p :: l, 0, _ => rfl
  | p :: l, i + 1, h => by
    have := trC_at l i (by simpa using h)
    rw [Nat.add_mul]
    simpa [trC] using this
theorem tr_at {p : Nat → Prop} {H : Heap} {v : Value} {N : Nat} {l : List (Nat × Nat)} (h : OwnL p H 2 39 v N (trC l)) {i : Nat} (hi : i < l.length) : ∃ b o c x, v = .slice (some ⟨b, o, none⟩) N c ∧ c ≠ 0 ∧ H.get b = some x ∧ x.cells[o + i * 2]? = some (nv l[i].1) := by
  rcases h with ⟨_, h2, h3⟩ | ⟨b, o, pre, rfl, _, _, h4, h5, _⟩
  · have := congrArg List.length h3
    rw [trC_len] at this
    simp only [List.length_nil] at this
    omega
  · refine ⟨b, o, openCap, _, rfl, by unfold openCap; omega, h4, ?_⟩
    subst h5
    rw [List.getElem?_append_right (by omega), Nat.add_sub_cancel_left]
    exact trC_at l i hi

def bal : List (Nat × Nat) → Int
  | [] => 0
  | p :: l => (if p.1 = 0 then 1 else -1) + bal l
theorem bal_snoc (l : List (Nat × Nat)) (p : Nat × Nat) : bal (l ++ [p]) = bal l + if p.1 = 0 then 1 else -1 := by
  induction l with
  | nil => simp [bal]
  | cons q l ih => simp only [List.cons_append, bal, ih]; omega

def putL : Nat → List Act
  | 0 => []
  | n + 1 => putL n ++ [⟨6, 0, 0, n⟩]
def takeL : Nat → List Act
  | 0 => []
  | n + 1 => takeL n ++ [⟨7, 0, 3, 0⟩]
theorem putL_len : ∀ n, (putL n).length = n
  | 0 => rfl
  | n + 1 => by rw [putL, List.length_append, putL_len n]; rfl
theorem takeL_len : ∀ n, (takeL n).length = n
  | 0 => rfl
  | n + 1 => by rw [takeL, List.length_append, takeL_len n]; rfl

structure QueuesOk (n room : Nat) (picks : List Int) : Prop where
  ask : askedP [putL n, takeL n] room picks 65536 = 0
  len : (runM 65536 (S0 [putL n, takeL n] room) picks).trace.length = 2 * n
  reg : (runM 65536 (S0 [putL n, takeL n] room) picks).regs 3 = (n : Int) - 1
  how0 : howS (runM 65536 (S0 [putL n, takeL n] room) picks) 0 = 1
  how1 : howS (runM 65536 (S0 [putL n, takeL n] room) picks) 1 = 1
  bal : ∀ k, k ≤ 2 * n → 0 ≤ bal ((runM 65536 (S0 [putL n, takeL n] room) picks).trace.take k) ∧ bal ((runM 65536 (S0 [putL n, takeL n] room) picks).trace.take k) ≤ room

theorem queues_W (old : Nat → Option Blk) (hw : WF ⟨old, .nil, base0⟩) {n room : Int} {pv : Value} {picks : List Int} (hp : RdI ⟨old, .nil, base0⟩ pv (picks.map iv))
    (pure : ∀ n room : Nat, 1 ≤ n → n ≤ 100 → 1 ≤ room → room ≤ 16 → picks.length ≤ 3000 → nonneg picks → QueuesOk n room picks) :
    CW Try.prog 6 #[.int .i64 n, .int .i64 room, pv] ⟨old, .nil, base0⟩ fun x _ => x = .ret (.bool true) := by
  refine CW_k (n := 133) if6 rfl ?_
  unfold C6
  obtain ⟨pa, pc, hpv, _⟩ := id hp
  simp only [List.length_map] at hpv
  simp (config := { implicitDefEqProofs := false, maxDischargeDepth := 6, maxSteps := 1000000 }) only [go_sem, ↓reduceIte, Nat.reduceLT, Nat.reduceLeDiff, Nat.reduceEqDiff, Nat.reduceAdd, Nat.reduceMul, Nat.reduceSub, Nat.reduceBEq, reduceCtorEq, Int.reduceEq, Int.reduceLT, Int.reduceLE, Int.reduceNeg, Int.reduceToNat, ]
  refine CW_mono _ (begun_law old) ?_
  rintro _ H0 ⟨rfl, hE0⟩
  simp (config := { implicitDefEqProofs := false, maxDischargeDepth := 6, maxSteps := 1000000 }) only [go_sem, ↓reduceIte, Nat.reduceLT, Nat.reduceLeDiff, Nat.reduceEqDiff, Nat.reduceAdd, Nat.reduceMul, Nat.reduceSub, Nat.reduceBEq, reduceCtorEq, Int.reduceEq, Int.reduceLT, Int.reduceLE, Int.reduceNeg, Int.reduceToNat, ]
  by_cases c1 : n < 1
  · simp (config := { implicitDefEqProofs := false, maxDischargeDepth := 6, maxSteps := 1000000 }) only [go_sem, ↓reduceIte, Nat.reduceLT, Nat.reduceLeDiff, Nat.reduceEqDiff, Nat.reduceAdd, Nat.reduceMul, Nat.reduceSub, Nat.reduceBEq, reduceCtorEq, Int.reduceEq, Int.reduceLT, Int.reduceLE, Int.reduceNeg, Int.reduceToNat, c1]
  by_cases c2 : 100 < n
  · simp (config := { implicitDefEqProofs := false, maxDischargeDepth := 6, maxSteps := 1000000 }) only [go_sem, ↓reduceIte, Nat.reduceLT, Nat.reduceLeDiff, Nat.reduceEqDiff, Nat.reduceAdd, Nat.reduceMul, Nat.reduceSub, Nat.reduceBEq, reduceCtorEq, Int.reduceEq, Int.reduceLT, Int.reduceLE, Int.reduceNeg, Int.reduceToNat, c1, c2]
  by_cases c3 : room < 1
  · simp (config := { implicitDefEqProofs := false, maxDischargeDepth := 6, maxSteps := 1000000 }) only [go_sem, ↓reduceIte, Nat.reduceLT, Nat.reduceLeDiff, Nat.reduceEqDiff, Nat.reduceAdd, Nat.reduceMul, Nat.reduceSub, Nat.reduceBEq, reduceCtorEq, Int.reduceEq, Int.reduceLT, Int.reduceLE, Int.reduceNeg, Int.reduceToNat, c1, c2, c3]
  by_cases c4 : 16 < room
  · simp (config := { implicitDefEqProofs := false, maxDischargeDepth := 6, maxSteps := 1000000 }) only [go_sem, ↓reduceIte, Nat.reduceLT, Nat.reduceLeDiff, Nat.reduceEqDiff, Nat.reduceAdd, Nat.reduceMul, Nat.reduceSub, Nat.reduceBEq, reduceCtorEq, Int.reduceEq, Int.reduceLT, Int.reduceLE, Int.reduceNeg, Int.reduceToNat, c1, c2, c3, c4]
  by_cases c5 : 3000 < picks.length
  · have c5Z : (3000 : Int) < (picks.length : Int) := by omega
    simp (config := { implicitDefEqProofs := false, maxDischargeDepth := 6, maxSteps := 1000000 }) only [go_sem, ↓reduceIte, Nat.reduceLT, Nat.reduceLeDiff, Nat.reduceEqDiff, Nat.reduceAdd, Nat.reduceMul, Nat.reduceSub, Nat.reduceBEq, reduceCtorEq, Int.reduceEq, Int.reduceLT, Int.reduceLE, Int.reduceNeg, Int.reduceToNat, c1, c2, c3, c4, hpv, goInt, c5Z]
  have c5Z : ¬ (3000 : Int) < (picks.length : Int) := by omega
  simp (config := { implicitDefEqProofs := false, maxDischargeDepth := 6, maxSteps := 1000000 }) only [go_sem, ↓reduceIte, Nat.reduceLT, Nat.reduceLeDiff, Nat.reduceEqDiff, Nat.reduceAdd, Nat.reduceMul, Nat.reduceSub, Nat.reduceBEq, reduceCtorEq, Int.reduceEq, Int.reduceLT, Int.reduceLE, Int.reduceNeg, Int.reduceToNat, c1, c2, c3, c4, hpv, goInt, c5Z]
  obtain ⟨n, rfl⟩ : ∃ k : Nat, n = (k : Int) := ⟨n.toNat, by omega⟩
  obtain ⟨room, rfl⟩ : ∃ k : Nat, room = (k : Int) := ⟨room.toNat, by omega⟩
  have hw0 := hE0.wf
  have hp0 : RdI H0 pv (picks.map iv) := hp.of fun b x hb => hE0.of hw hb
  refine Wk_loopF (fun m f G => ∃ k, m = picks.length - k ∧ k ≤ picks.length ∧ f.get 0 = some (nv n) ∧ f.get 1 = some (nv room) ∧ f.get 2 = some (.slice pa picks.length pc) ∧ f.get 7 = some (nv k) ∧ G = H0 ∧ ∀ i (h : i < picks.length), i < k → 0 ≤ picks[i]) picks.length ?_ ?_
  · refine ⟨0, by omega, by omega, ?_, ?_, ?_, ?_, rfl, by omega⟩
    all_goals simp (config := { implicitDefEqProofs := false, maxDischargeDepth := 6, maxSteps := 1000000 }) only [go_sem, ↓reduceIte, Nat.reduceLT, Nat.reduceLeDiff, Nat.reduceEqDiff, Nat.reduceAdd, Nat.reduceMul, Nat.reduceSub, Nat.reduceBEq, reduceCtorEq, Int.reduceEq, Int.reduceLT, Int.reduceLE, Int.reduceNeg, Int.reduceToNat, nv]
    rfl
  rintro m f G ⟨k, rfl, hk, f0, f1, f2, f7, hG, hall⟩
  subst G
  unfold L6_1
  by_cases hlt : k < picks.length
  · have hltZ : (k : Int) < (picks.length : Int) := by omega
    have hk0 : (0 : Int) ≤ (k : Int) := by omega
    have hw1 : IntKind.i64.wrap ((k : Int) + 1) = ((k + 1 : Nat) : Int) := IntWalk.i64_in _ (by omega)
    obtain ⟨b, o, c, x, hv, hc, hx, hxk⟩ := hp0.at_ (i := k) (by simpa using hlt)
    rw [hpv] at hv
    simp only [Value.slice.injEq, List.length_map, true_and] at hv
    obtain ⟨rfl, rfl⟩ := hv
    simp only [List.getElem_map, iv] at hxk
    by_cases hn : picks[k] < 0
    · simp (config := { implicitDefEqProofs := false, maxDischargeDepth := 6, maxSteps := 1000000 }) only [go_sem, ↓reduceIte, Nat.reduceLT, Nat.reduceLeDiff, Nat.reduceEqDiff, Nat.reduceAdd, Nat.reduceMul, Nat.reduceSub, Nat.reduceBEq, reduceCtorEq, Int.reduceEq, Int.reduceLT, Int.reduceLE, Int.reduceNeg, Int.reduceToNat, f0, f1, f2, f7, nv, hltZ, hk0, hc, hx, hxk, hn, goInt]
    · simp (config := { implicitDefEqProofs := false, maxDischargeDepth := 6, maxSteps := 1000000 }) only [go_sem, ↓reduceIte, Nat.reduceLT, Nat.reduceLeDiff, Nat.reduceEqDiff, Nat.reduceAdd, Nat.reduceMul, Nat.reduceSub, Nat.reduceBEq, reduceCtorEq, Int.reduceEq, Int.reduceLT, Int.reduceLE, Int.reduceNeg, Int.reduceToNat, f0, f1, f2, f7, nv, hltZ, hk0, hc, hx, hxk, hn, goInt, hw1]
      refine ⟨picks.length - (k + 1), by omega, k + 1, rfl, by omega, ?_, ?_, ?_, ?_, rfl, ?_⟩
      · simp (config := { implicitDefEqProofs := false, maxDischargeDepth := 6, maxSteps := 1000000 }) only [go_sem, ↓reduceIte, Nat.reduceLT, Nat.reduceLeDiff, Nat.reduceEqDiff, Nat.reduceAdd, Nat.reduceMul, Nat.reduceSub, Nat.reduceBEq, reduceCtorEq, Int.reduceEq, Int.reduceLT, Int.reduceLE, Int.reduceNeg, Int.reduceToNat, f0, nv]
      · simp (config := { implicitDefEqProofs := false, maxDischargeDepth := 6, maxSteps := 1000000 }) only [go_sem, ↓reduceIte, Nat.reduceLT, Nat.reduceLeDiff, Nat.reduceEqDiff, Nat.reduceAdd, Nat.reduceMul, Nat.reduceSub, Nat.reduceBEq, reduceCtorEq, Int.reduceEq, Int.reduceLT, Int.reduceLE, Int.reduceNeg, Int.reduceToNat, f1, nv]
      · simp (config := { implicitDefEqProofs := false, maxDischargeDepth := 6, maxSteps := 1000000 }) only [go_sem, ↓reduceIte, Nat.reduceLT, Nat.reduceLeDiff, Nat.reduceEqDiff, Nat.reduceAdd, Nat.reduceMul, Nat.reduceSub, Nat.reduceBEq, reduceCtorEq, Int.reduceEq, Int.reduceLT, Int.reduceLE, Int.reduceNeg, Int.reduceToNat, f2]
      · simp (config := { implicitDefEqProofs := false, maxDischargeDepth := 6, maxSteps := 1000000 }) only [go_sem, ↓reduceIte, Nat.reduceLT, Nat.reduceLeDiff, Nat.reduceEqDiff, Nat.reduceAdd, Nat.reduceMul, Nat.reduceSub, Nat.reduceBEq, reduceCtorEq, Int.reduceEq, Int.reduceLT, Int.reduceLE, Int.reduceNeg, Int.reduceToNat, nv]
      · intro i h hi
        by_cases e : i = k
        · subst e; omega
        · exact hall i h (by omega)
  have hltZ : ¬ (k : Int) < (picks.length : Int) := by omega
  obtain rfl : k = picks.length := by omega
  have hnn : nonneg picks := by
    intro p hpm
    obtain ⟨i, hi, rfl⟩ := List.mem_iff_getElem.1 hpm
    exact hall i hi hi
  have hOk := pure n room (by omega) (by omega) (by omega) (by omega) (by omega) hnn
  simp (config := { implicitDefEqProofs := false, maxDischargeDepth := 6, maxSteps := 1000000 }) only [go_sem, ↓reduceIte, Nat.reduceLT, Nat.reduceLeDiff, Nat.reduceEqDiff, Nat.reduceAdd, Nat.reduceMul, Nat.reduceSub, Nat.reduceBEq, reduceCtorEq, Int.reduceEq, Int.reduceLT, Int.reduceLE, Int.reduceNeg, Int.reduceToNat, f0, f1, f2, f7, nv, hltZ, goInt]
  refine Wk_loopF (fun m f G => ∃ k v1 v2, m = n - k ∧ k ≤ n ∧ f.get 0 = some (nv n) ∧ f.get 1 = some (nv room) ∧ f.get 2 = some (.slice pa picks.length pc) ∧ f.get 8 = some v1 ∧ f.get 9 = some v2 ∧ f.get 10 = some (nv k) ∧ Two H0 G v1 (putL k) v2 (takeL k)) n ?_ ?_
  · refine ⟨0, .slice none 0 0, .slice none 0 0, by omega, by omega, ?_, ?_, ?_, ?_, ?_, ?_, Two.nil (Ext.refl hw0)⟩
    all_goals simp (config := { implicitDefEqProofs := false, maxDischargeDepth := 6, maxSteps := 1000000 }) only [go_sem, ↓reduceIte, Nat.reduceLT, Nat.reduceLeDiff, Nat.reduceEqDiff, Nat.reduceAdd, Nat.reduceMul, Nat.reduceSub, Nat.reduceBEq, reduceCtorEq, Int.reduceEq, Int.reduceLT, Int.reduceLE, Int.reduceNeg, Int.reduceToNat, f0, f1, f2, nv]
    rfl
  clear f0 f1 f2 f7 hall
  rintro m f G ⟨k, v1, v2, rfl, hk, f0, f1, f2, f8, f9, f10, hM⟩
  unfold L6_2
  by_cases hlt2 : k < n
  · have hltZ2 : (k : Int) < (n : Int) := by omega
    have hw2 : IntKind.i64.wrap ((k : Int) + 1) = ((k + 1 : Nat) : Int) := IntWalk.i64_in _ (by omega)
    obtain ⟨a1, k1, rfl⟩ := hM.sl
    simp (config := { implicitDefEqProofs := false, maxDischargeDepth := 6, maxSteps := 1000000 }) only [go_sem, ↓reduceIte, Nat.reduceLT, Nat.reduceLeDiff, Nat.reduceEqDiff, Nat.reduceAdd, Nat.reduceMul, Nat.reduceSub, Nat.reduceBEq, reduceCtorEq, Int.reduceEq, Int.reduceLT, Int.reduceLE, Int.reduceNeg, Int.reduceToNat, f0, f1, f2, f8, f9, f10, nv, hltZ2]
    obtain ⟨G3, w1, ha3, hM3⟩ := hM.push (m := 1) (cells := [.int .i64 6, .int .i64 0, .int .i64 0, .int .i64 k]) (new := [⟨6, 0, 0, k⟩]) rfl rfl (by simp) (by rw [putL_len]; simp; omega)
    refine Wk_vh ha3 ?_
    obtain ⟨a2, k2, rfl⟩ := hM3.swap.sl
    simp (config := { implicitDefEqProofs := false, maxDischargeDepth := 6, maxSteps := 1000000 }) only [go_sem, ↓reduceIte, Nat.reduceLT, Nat.reduceLeDiff, Nat.reduceEqDiff, Nat.reduceAdd, Nat.reduceMul, Nat.reduceSub, Nat.reduceBEq, reduceCtorEq, Int.reduceEq, Int.reduceLT, Int.reduceLE, Int.reduceNeg, Int.reduceToNat, f0, f1, f2, f8, f9, f10, nv]
    obtain ⟨G4, w2, ha4, hM4⟩ := hM3.swap.push (m := 1) (cells := [.int .i64 7, .int .i64 0, .int .i64 3, .int .i64 0]) (new := [⟨7, 0, 3, 0⟩]) rfl rfl (by simp) (by rw [takeL_len]; simp; omega)
    refine Wk_vh ha4 ?_
    simp (config := { implicitDefEqProofs := false, maxDischargeDepth := 6, maxSteps := 1000000 }) only [go_sem, ↓reduceIte, Nat.reduceLT, Nat.reduceLeDiff, Nat.reduceEqDiff, Nat.reduceAdd, Nat.reduceMul, Nat.reduceSub, Nat.reduceBEq, reduceCtorEq, Int.reduceEq, Int.reduceLT, Int.reduceLE, Int.reduceNeg, Int.reduceToNat, f0, f1, f2, f8, f9, f10, nv, hw2]
    refine ⟨n - (k + 1), by omega, k + 1, w1, w2, rfl, by omega, ?_, ?_, ?_, ?_, ?_, ?_, hM4.swap⟩
    · simp (config := { implicitDefEqProofs := false, maxDischargeDepth := 6, maxSteps := 1000000 }) only [go_sem, ↓reduceIte, Nat.reduceLT, Nat.reduceLeDiff, Nat.reduceEqDiff, Nat.reduceAdd, Nat.reduceMul, Nat.reduceSub, Nat.reduceBEq, reduceCtorEq, Int.reduceEq, Int.reduceLT, Int.reduceLE, Int.reduceNeg, Int.reduceToNat, f0, nv]
    · simp (config := { implicitDefEqProofs := false, maxDischargeDepth := 6, maxSteps := 1000000 }) only [go_sem, ↓reduceIte, Nat.reduceLT, Nat.reduceLeDiff, Nat.reduceEqDiff, Nat.reduceAdd, Nat.reduceMul, Nat.reduceSub, Nat.reduceBEq, reduceCtorEq, Int.reduceEq, Int.reduceLT, Int.reduceLE, Int.reduceNeg, Int.reduceToNat, f1, nv]
    · simp (config := { implicitDefEqProofs := false, maxDischargeDepth := 6, maxSteps := 1000000 }) only [go_sem, ↓reduceIte, Nat.reduceLT, Nat.reduceLeDiff, Nat.reduceEqDiff, Nat.reduceAdd, Nat.reduceMul, Nat.reduceSub, Nat.reduceBEq, reduceCtorEq, Int.reduceEq, Int.reduceLT, Int.reduceLE, Int.reduceNeg, Int.reduceToNat, f2]
    · simp (config := { implicitDefEqProofs := false, maxDischargeDepth := 6, maxSteps := 1000000 }) only [go_sem, ↓reduceIte, Nat.reduceLT, Nat.reduceLeDiff, Nat.reduceEqDiff, Nat.reduceAdd, Nat.reduceMul, Nat.reduceSub, Nat.reduceBEq, reduceCtorEq, Int.reduceEq, Int.reduceLT, Int.reduceLE, Int.reduceNeg, Int.reduceToNat, ]
    · simp (config := { implicitDefEqProofs := false, maxDischargeDepth := 6, maxSteps := 1000000 }) only [go_sem, ↓reduceIte, Nat.reduceLT, Nat.reduceLeDiff, Nat.reduceEqDiff, Nat.reduceAdd, Nat.reduceMul, Nat.reduceSub, Nat.reduceBEq, reduceCtorEq, Int.reduceEq, Int.reduceLT, Int.reduceLE, Int.reduceNeg, Int.reduceToNat, ]
    · simp (config := { implicitDefEqProofs := false, maxDischargeDepth := 6, maxSteps := 1000000 }) only [go_sem, ↓reduceIte, Nat.reduceLT, Nat.reduceLeDiff, Nat.reduceEqDiff, Nat.reduceAdd, Nat.reduceMul, Nat.reduceSub, Nat.reduceBEq, reduceCtorEq, Int.reduceEq, Int.reduceLT, Int.reduceLE, Int.reduceNeg, Int.reduceToNat, nv]
  · have hltZ2 : ¬ (k : Int) < (n : Int) := by omega
    obtain rfl : k = n := by omega
    have hnbG := hM.ext.wf.1
    obtain ⟨a1, k1, rfl⟩ := hM.sl
    obtain ⟨a2, k2, rfl⟩ := hM.swap.sl
    simp (config := { implicitDefEqProofs := false, maxDischargeDepth := 6, maxSteps := 1000000 }) only [go_sem, ↓reduceIte, Nat.reduceLT, Nat.reduceLeDiff, Nat.reduceEqDiff, Nat.reduceAdd, Nat.reduceMul, Nat.reduceSub, Nat.reduceBEq, reduceCtorEq, Int.reduceEq, Int.reduceLT, Int.reduceLE, Int.reduceNeg, Int.reduceToNat, f0, f1, f2, f8, f9, f10, nv, hltZ2]
    have hEa := (Ext.refl hM.ext.wf).alloc (⟨45, 0, false, [.slice a1 (putL k).length k1, .slice a2 (takeL k).length k2]⟩ : Blk)
    have hT := (hM.of hEa).tasks (get_alloc_eq hnbG)
    have hpG := (hp0.of fun b x hb => hM.ext.of hw0 hb).of fun b x hb => hEa.of hM.ext.wf hb
    rw [hpv] at hpG
    refine CW_mono _ (Run_W hEa.wf hT (by simp) (room := room) (most := 65536) hpG) ?_
    intro x H1 hR
    obtain ⟨hE1, _, hR⟩ := hR
    obtain ⟨trv, rgv, ev, qsv, qv, rfl, hA⟩ := hR hOk.ask
    rw [show Int.toNat 65536 = 65536 from rfl] at hA ⊢
    have hlen := hOk.len
    have hreg := hOk.reg
    have how0 := hOk.how0
    have how1 := hOk.how1
    have hbal := hOk.bal
    have hSN : (runM 65536 (S0 [putL k, takeL k] room) picks).N = 2 := (runM_N 65536 picks).1
    generalize runM 65536 (S0 [putL k, takeL k] room) picks = S at *
    have hw1 := hE1.wf
    have hnb1 := hw1.1
    obtain ⟨ra, rc, rfl⟩ := hA.regs.sl
    obtain ⟨ea, ec, rfl⟩ := hA.ends.sl
    obtain ⟨sa, sc, rfl⟩ := hA.queues.sl
    obtain ⟨ta, tc, rfl⟩ := hA.trace.sl
    have hEF := ((Ext.refl hw1).alloc (⟨33, 0, false, [.int .i64 0, .slice none 0 0, .slice none 0 0, .slice none 0 0, .slice none 0 0]⟩ : Blk)).set (b := H1.next) (Nat.le_refl _) (by simp only [next_alloc]; omega) (⟨33, 0, false, [.int .i64 (2 * k : Nat), .slice ta (2 * k) tc, .slice ra 8 rc, .slice ea 2 ec, .slice sa 4 sc]⟩ : Blk)
    have hAF := hA.of hw1 hEF
    clear hA
    have hrg := hAF.regs.rd.at_ (i := 3) (by simp)
    have hends := hAF.ends
    have htr := hAF.trace
    clear hAF
    rw [hSN] at hends
    rw [hlen] at htr
    have h8 : ((8 : Nat) : Int) = 8 := rfl
    have m1 : IntKind.i64.wrap (2 * (k : Int)) = ((2 * k : Nat) : Int) := by rw [Int.natCast_mul]; exact IntWalk.i64_in _ (by omega)
    have m2 : IntKind.i64.wrap ((k : Int) - 1) = (k : Int) - 1 := IntWalk.i64_in _ (by omega)
    obtain ⟨b, o, c, x, hv, hc, hx, hx0⟩ := hrg
    simp only [Value.slice.injEq, List.length_map, List.length_range, true_and] at hv
    obtain ⟨rfl, rfl⟩ := hv
    simp only [List.getElem_map, List.getElem_range, iv, hreg] at hx0
    simp (config := { implicitDefEqProofs := false, maxDischargeDepth := 6, maxSteps := 1000000 }) only [go_sem, ↓reduceIte, Nat.reduceLT, Nat.reduceLeDiff, Nat.reduceEqDiff, Nat.reduceAdd, Nat.reduceMul, Nat.reduceSub, Nat.reduceBEq, reduceCtorEq, Int.reduceEq, Int.reduceLT, Int.reduceLE, Int.reduceNeg, Int.reduceToNat, f0, f1, f2, nv, loads_eq, hnb1, hSN, goInt, h8, hlen, m1, m2, hc, hx, hx0]
    clear hEF
    generalize hF : (Heap.set (Heap.alloc H1 ⟨33, 0, false, [.int .i64 0, .slice none 0 0, .slice none 0 0, .slice none 0 0, .slice none 0 0]⟩) H1.next ⟨33, 0, false, [.int .i64 (2 * k : Nat), .slice ta (2 * k) tc, .slice (some ⟨b, o, none⟩) 8 rc, .slice ea 2 ec, .slice sa 4 sc]⟩) = F at *
    have hcell : F.get H1.next = some ⟨33, 0, false, [.int .i64 (2 * k : Nat), .slice ta (2 * k) tc, .slice (some ⟨b, o, none⟩) 8 rc, .slice ea 2 ec, .slice sa 4 sc]⟩ := by rw [← hF]; exact get_set_eq hnb1
    refine Wk_loopF (fun m f G => ∃ i, m = 2 * k - i ∧ i ≤ 2 * k ∧ f.get 1 = some (nv room) ∧ f.get 11 = some (.pointer (some ⟨H1.next, 0, none⟩)) ∧ f.get 13 = some (.int .i64 (bal (S.trace.take i))) ∧ f.get 14 = some (nv i) ∧ G = F) (2 * k) ?_ ?_
    · refine ⟨0, by omega, by omega, ?_, ?_, ?_, ?_, rfl⟩
      all_goals simp (config := { implicitDefEqProofs := false, maxDischargeDepth := 6, maxSteps := 1000000 }) only [go_sem, ↓reduceIte, Nat.reduceLT, Nat.reduceLeDiff, Nat.reduceEqDiff, Nat.reduceAdd, Nat.reduceMul, Nat.reduceSub, Nat.reduceBEq, reduceCtorEq, Int.reduceEq, Int.reduceLT, Int.reduceLE, Int.reduceNeg, Int.reduceToNat, f1, nv, bal]
      rfl
    clear f0 f1 f2 f8 f9 f10
    rintro m f G ⟨i, rfl, hi, f1, f11, f13, f14, rfl⟩
    unfold L6_3
    by_cases hlti : i < 2 * k
    · have hltZi : (i : Int) < ((2 * k : Nat) : Int) := by omega
      have hi0 : (0 : Int) ≤ (i : Int) := by omega
      have hwi : IntKind.i64.wrap ((i : Int) + 1) = ((i + 1 : Nat) : Int) := IntWalk.i64_in _ (by omega)
      have hb1 := hbal (i + 1) (by omega)
      have ht : S.trace.take (i + 1) = S.trace.take i ++ [S.trace[i]'(by omega)] := List.take_succ_eq_append_getElem (by omega)
      obtain ⟨b', o', c', x', hv, hc', hx', hx0'⟩ := tr_at htr (i := i) (by omega)
      simp only [Value.slice.injEq, true_and] at hv
      obtain ⟨rfl, rfl⟩ := hv
      rw [ht, bal_snoc] at hb1
      have cb1 : ¬ bal (S.trace.take (i + 1)) < 0 := by rw [ht, bal_snoc]; omega
      have cb2 : ¬ (room : Int) < bal (S.trace.take (i + 1)) := by rw [ht, bal_snoc]; omega
      by_cases hz : (S.trace[i]'(by omega)).1 = 0
      · have hzZ : ((S.trace[i]'(by omega)).1 : Int) = 0 := by omega
        rw [if_pos hz] at hb1
        have hwb : IntKind.i64.wrap (bal (S.trace.take i) + 1) = bal (S.trace.take (i + 1)) := by
          rw [ht, bal_snoc, if_pos hz]; exact IntWalk.i64_in _ (by omega)
        simp (config := { implicitDefEqProofs := false, maxDischargeDepth := 6, maxSteps := 1000000 }) only [go_sem, ↓reduceIte, Nat.reduceLT, Nat.reduceLeDiff, Nat.reduceEqDiff, Nat.reduceAdd, Nat.reduceMul, Nat.reduceSub, Nat.reduceBEq, reduceCtorEq, Int.reduceEq, Int.reduceLT, Int.reduceLE, Int.reduceNeg, Int.reduceToNat, f1, f11, f13, f14, nv, hltZi, hi0, goInt, hcell, hc', hx', hx0', hzZ, Nat.add_zero, hwb, cb1, cb2, hwi]
        refine ⟨2 * k - (i + 1), by omega, i + 1, rfl, by omega, ?_, ?_, ?_, ?_, rfl⟩
        · simp (config := { implicitDefEqProofs := false, maxDischargeDepth := 6, maxSteps := 1000000 }) only [go_sem, ↓reduceIte, Nat.reduceLT, Nat.reduceLeDiff, Nat.reduceEqDiff, Nat.reduceAdd, Nat.reduceMul, Nat.reduceSub, Nat.reduceBEq, reduceCtorEq, Int.reduceEq, Int.reduceLT, Int.reduceLE, Int.reduceNeg, Int.reduceToNat, f1, nv]
        · simp (config := { implicitDefEqProofs := false, maxDischargeDepth := 6, maxSteps := 1000000 }) only [go_sem, ↓reduceIte, Nat.reduceLT, Nat.reduceLeDiff, Nat.reduceEqDiff, Nat.reduceAdd, Nat.reduceMul, Nat.reduceSub, Nat.reduceBEq, reduceCtorEq, Int.reduceEq, Int.reduceLT, Int.reduceLE, Int.reduceNeg, Int.reduceToNat, f11]
        · simp (config := { implicitDefEqProofs := false, maxDischargeDepth := 6, maxSteps := 1000000 }) only [go_sem, ↓reduceIte, Nat.reduceLT, Nat.reduceLeDiff, Nat.reduceEqDiff, Nat.reduceAdd, Nat.reduceMul, Nat.reduceSub, Nat.reduceBEq, reduceCtorEq, Int.reduceEq, Int.reduceLT, Int.reduceLE, Int.reduceNeg, Int.reduceToNat, ]
        · simp (config := { implicitDefEqProofs := false, maxDischargeDepth := 6, maxSteps := 1000000 }) only [go_sem, ↓reduceIte, Nat.reduceLT, Nat.reduceLeDiff, Nat.reduceEqDiff, Nat.reduceAdd, Nat.reduceMul, Nat.reduceSub, Nat.reduceBEq, reduceCtorEq, Int.reduceEq, Int.reduceLT, Int.reduceLE, Int.reduceNeg, Int.reduceToNat, nv]
      · have hzZ : ¬ ((S.trace[i]'(by omega)).1 : Int) = 0 := by omega
        rw [if_neg hz] at hb1
        have hwb : IntKind.i64.wrap (bal (S.trace.take i) - 1) = bal (S.trace.take (i + 1)) := by
          rw [ht, bal_snoc, if_neg hz]; exact IntWalk.i64_in _ (by omega)
        simp (config := { implicitDefEqProofs := false, maxDischargeDepth := 6, maxSteps := 1000000 }) only [go_sem, ↓reduceIte, Nat.reduceLT, Nat.reduceLeDiff, Nat.reduceEqDiff, Nat.reduceAdd, Nat.reduceMul, Nat.reduceSub, Nat.reduceBEq, reduceCtorEq, Int.reduceEq, Int.reduceLT, Int.reduceLE, Int.reduceNeg, Int.reduceToNat, f1, f11, f13, f14, nv, hltZi, hi0, goInt, hcell, hc', hx', hx0', hzZ, Nat.add_zero, hwb, cb1, cb2, hwi]
        refine ⟨2 * k - (i + 1), by omega, i + 1, rfl, by omega, ?_, ?_, ?_, ?_, rfl⟩
        · simp (config := { implicitDefEqProofs := false, maxDischargeDepth := 6, maxSteps := 1000000 }) only [go_sem, ↓reduceIte, Nat.reduceLT, Nat.reduceLeDiff, Nat.reduceEqDiff, Nat.reduceAdd, Nat.reduceMul, Nat.reduceSub, Nat.reduceBEq, reduceCtorEq, Int.reduceEq, Int.reduceLT, Int.reduceLE, Int.reduceNeg, Int.reduceToNat, f1, nv]
        · simp (config := { implicitDefEqProofs := false, maxDischargeDepth := 6, maxSteps := 1000000 }) only [go_sem, ↓reduceIte, Nat.reduceLT, Nat.reduceLeDiff, Nat.reduceEqDiff, Nat.reduceAdd, Nat.reduceMul, Nat.reduceSub, Nat.reduceBEq, reduceCtorEq, Int.reduceEq, Int.reduceLT, Int.reduceLE, Int.reduceNeg, Int.reduceToNat, f11]
        · simp (config := { implicitDefEqProofs := false, maxDischargeDepth := 6, maxSteps := 1000000 }) only [go_sem, ↓reduceIte, Nat.reduceLT, Nat.reduceLeDiff, Nat.reduceEqDiff, Nat.reduceAdd, Nat.reduceMul, Nat.reduceSub, Nat.reduceBEq, reduceCtorEq, Int.reduceEq, Int.reduceLT, Int.reduceLE, Int.reduceNeg, Int.reduceToNat, ]
        · simp (config := { implicitDefEqProofs := false, maxDischargeDepth := 6, maxSteps := 1000000 }) only [go_sem, ↓reduceIte, Nat.reduceLT, Nat.reduceLeDiff, Nat.reduceEqDiff, Nat.reduceAdd, Nat.reduceMul, Nat.reduceSub, Nat.reduceBEq, reduceCtorEq, Int.reduceEq, Int.reduceLT, Int.reduceLE, Int.reduceNeg, Int.reduceToNat, nv]
    · have hltZi : ¬ (i : Int) < ((2 * k : Nat) : Int) := by omega
      obtain ⟨b', o', c', x', hv, hc', hx', hx0', _⟩ := pair_at hends (i := 0) (by omega)
      simp only [Value.slice.injEq, true_and] at hv
      obtain ⟨rfl, rfl⟩ := hv
      obtain ⟨b', o', c', x2, hv, _, hx2, hx02, _⟩ := pair_at hends (i := 1) (by omega)
      simp only [Value.slice.injEq, Option.some.injEq, Addr.mk.injEq, true_and, and_true] at hv
      obtain ⟨⟨rfl, rfl⟩, rfl⟩ := hv
      rw [hx'] at hx2
      cases hx2
      rw [how0] at hx0'
      rw [how1] at hx02
      simp only [iv, Nat.zero_mul, Nat.add_zero, Nat.one_mul] at hx0' hx02
      have h2 : ((2 : Nat) : Int) = 2 := rfl
      simp (config := { implicitDefEqProofs := false, maxDischargeDepth := 6, maxSteps := 1000000 }) only [go_sem, ↓reduceIte, Nat.reduceLT, Nat.reduceLeDiff, Nat.reduceEqDiff, Nat.reduceAdd, Nat.reduceMul, Nat.reduceSub, Nat.reduceBEq, reduceCtorEq, Int.reduceEq, Int.reduceLT, Int.reduceLE, Int.reduceNeg, Int.reduceToNat, f1, f11, f13, f14, nv, hltZi, goInt, hcell, hc', hx', hx0', hx02, Nat.add_zero, h2]
end Go.Am.T
