/- The walk of the law SchedGuards. Conditions: those of each theorem. -/
import Derived.Test.YthanhcpnhionaaaSdR
set_option linter.all false
set_option linter.unusedSimpArgs false
set_option linter.unusedVariables false
namespace Go.Am.T
open Go Go.Am Go.Proofs.Ythanhcpnhionaaa Go.Proofs

theorem ActsAt.fld {H : Heap} {v : Value} {l : List Act} (h : ActsAt H v l) {i : Nat} (hi : i < l.length) : ∃ b o c x, v = .slice (some ⟨b, o, none⟩) l.length c ∧ c ≠ 0 ∧ H.get b = some x ∧ x.cells[o + i * 4]? = some (.int .i64 (l[i]).k) ∧ x.cells[o + i * 4 + 3]? = some (.int .i64 (l[i]).n) := by
  obtain ⟨b, o, c, x, e, hc, hx, _, k⟩ := h.at_ hi
  have key : ∀ j, j < 4 → x.cells[o + i * 4 + j]? = ((l[i]).cells)[j]? := by
    intro j hj
    rw [← k, List.getElem?_take, if_pos hj, List.getElem?_drop]
  exact ⟨b, o, c, x, e, hc, hx, key 0 (by omega), key 3 (by omega)⟩

/- a list of acts that a law makes: as it was written, or grown -/
def LstL (H0 H : Heap) (v : Value) (l : List Act) : Prop :=
  (∃ b, v = .slice (some ⟨b, 0, none⟩) l.length l.length ∧ H.get b = some ⟨47, 0, false, actC l⟩ ∧ l ≠ []) ∨ OwnL (fun b => H0.next ≤ b) H 4 47 v l.length (actC l)
theorem LstL.sl {H0 H : Heap} {v : Value} {l : List Act} (h : LstL H0 H v l) : ∃ a c, v = .slice a l.length c := by
  rcases h with ⟨b, rfl, _⟩ | h
  · exact ⟨_, _, rfl⟩
  · exact h.sl
theorem lit_acts {H : Heap} {b : Nat} {l : List Act} (h : H.get b = some ⟨47, 0, false, actC l⟩) : ActsAt H (.slice (some ⟨b, 0, none⟩) l.length l.length) l := by
  refine ⟨_, l.length, rfl, fun hl => ⟨fun e => hl (List.eq_nil_of_length_eq_zero e), b, 0, _, rfl, h, fun i hi => ?_⟩⟩
  simp only [Nat.zero_add]
  refine ⟨by rw [actC_len]; omega, actC_at l i hi⟩
theorem LstL.acts {H0 H : Heap} {v : Value} {l : List Act} (h : LstL H0 H v l) : ActsAt H v l := by
  rcases h with ⟨b, rfl, h, _⟩ | h
  · exact lit_acts h
  · exact h.acts
theorem LstL.of {H0 H H' : Heap} {v : Value} {l : List Act} (h : LstL H0 H v l) (hw : WF H) (e : Ext H H') : LstL H0 H' v l := by
  rcases h with ⟨b, h1, h2, h3⟩ | h
  · exact .inl ⟨b, h1, e.of hw h2, h3⟩
  · exact .inr (h.frame fun b x hb hg => ⟨hb, e.of hw hg⟩)
theorem LstL.push {H0 G : Heap} {la : Option Addr} {lc m : Nat} {ls new : List Act} {cells : List Value} (hE : Ext H0 G) (h : LstL H0 G (.slice la ls.length lc) ls) (hc : cells = actC new) (hm : m = new.length) (h0 : new ≠ []) (hb : ls.length + new.length ≤ 1000000) :
    ∃ H6 lv', appS (G.alloc ⟨47, 0, false, cells⟩) 47 4 32 la ls.length lc (.slice (some ⟨G.next, 0, none⟩) m m) = some (lv', H6) ∧ Ext H0 H6 ∧ LstL H0 H6 lv' (ls ++ new) := by
  have hm0 : new.length ≠ 0 := fun e => h0 (List.eq_nil_of_length_eq_zero e)
  rcases h with ⟨b, h1, h2, h3⟩ | h
  · subst hc hm
    simp only [Value.slice.injEq, true_and] at h1
    obtain ⟨rfl, rfl⟩ := h1
    have hE1 : Ext G (G.alloc ⟨47, 0, false, actC new⟩) := (Ext.refl hE.wf).alloc _
    have hls : ls.length ≠ 0 := fun e => h3 (List.eq_nil_of_length_eq_zero e)
    have f1 : firstA (G.alloc ⟨47, 0, false, actC new⟩) 4 new.length (.slice (some ⟨G.next, 0, none⟩) new.length new.length) = some (actC new) := by
      show (if new.length = 0 then some [] else if new.length = 0 then none else Heap.loads _ ⟨G.next, 0, none⟩ (new.length * 4)) = _
      rw [if_neg hm0, if_neg hm0, loads_eq, get_alloc_eq hE.wf.1, Option.bind_some, if_pos (by rw [actC_len]; omega)]
      simp [← actC_len]
    have f2 : firstA (G.alloc ⟨47, 0, false, actC new⟩) 4 ls.length (.slice (some ⟨b, 0, none⟩) ls.length ls.length) = some (actC ls) := by
      show (if ls.length = 0 then some [] else if ls.length = 0 then none else Heap.loads _ ⟨b, 0, none⟩ (ls.length * 4)) = _
      rw [if_neg hls, if_neg hls, loads_eq, hE1.of hE.wf h2, Option.bind_some, if_pos (by rw [actC_len]; omega)]
      simp [← actC_len]
    have e1 : ¬ (4 * (ls.length + new.length) * 32 + 4096 > 2 ^ 47 || (ls.length + new.length > 2 ^ 47)) = true := by simp; omega
    refine ⟨(G.alloc ⟨47, 0, false, actC new⟩).alloc ⟨47, 4, true, actC ls ++ actC new⟩, .slice (some ⟨G.next + 1, 0, none⟩) (ls.length + new.length) openCap, ?_, (hE.alloc _).alloc _, .inr ?_⟩
    · unfold appS
      simp only [lengthA, Option.bind_eq_bind, Option.bind_some, f1]
      rw [if_pos (show ls.length ≠ openCap by unfold openCap; omega), if_neg (by omega), if_neg e1, f2]
      rfl
    · rw [List.length_append, actC_app]
      have := hE.wf.1
      have := hE.le
      refine .inr ⟨G.next + 1, 0, [], rfl, by omega, by omega, get_alloc_at (H := G.alloc _) (by show base0 ≤ G.next + 1; omega) rfl, rfl, ?_⟩
      simp [actC_len, Nat.add_mul]
  · subst hc hm
    have hEa : Ext G (G.alloc ⟨47, 0, false, actC new⟩) := (Ext.refl hE.wf).alloc _
    obtain ⟨H6, h1, h2, h3, _, _⟩ := appOM (bytes := 32) (x := ⟨47, 0, false, actC new⟩) (hE.trans hEa) (h.frame (p' := fun b => H0.next ≤ b) fun b x hb hg => ⟨hb, hEa.of hE.wf hg⟩) (get_alloc_eq hE.wf.1) rfl (actC_len new) (by omega) hm0 (actC_one new) (by omega) (by omega)
    refine ⟨H6, _, h1, h2, .inr ?_⟩
    rw [List.length_append, actC_app]
    exact h3

@[go_sem] theorem mk_200 : makeSliceA Try.prog 23 (.int .i64 200) (.int .i64 200) = some (fun b => .slice (some ⟨b, 0, none⟩) 200 200, ⟨3, 0, false, List.replicate 200 (.int .i64 0)⟩) := by kernel_rfl

def gdL (g : Bool) (ns : List Int) : Nat → List Act
  | 0 => [⟨1, 1, 0, 0⟩]
  | k + 1 => gdL g ns k ++ [if g then ⟨13, 0, 0, ((2 * k + 3 : Nat) : Int)⟩ else ⟨11, 0, 0, 0⟩] ++ [⟨12, 0, 0, ns.getD k 0⟩]
theorem gdL_len (g : Bool) (ns : List Int) : ∀ k, (gdL g ns k).length = 2 * k + 1
  | 0 => rfl
  | k + 1 => by rw [gdL, List.length_append, List.length_append, gdL_len g ns k]; simp; omega
theorem gdL_13 (g : Bool) (ns : List Int) : ∀ k, ∀ x ∈ gdL g ns k, x.k = 13 → 0 ≤ x.n ∧ x.n ≤ ((2 * k + 1 : Nat) : Int)
  | 0, x, hx, hk => by
    simp only [gdL, List.mem_cons, List.not_mem_nil, or_false] at hx
    subst hx; simp at hk
  | k + 1, x, hx, hk => by
    simp only [gdL, List.mem_append, List.mem_cons, List.not_mem_nil, or_false] at hx
    rcases hx with (hx | hx) | hx
    · have := gdL_13 g ns k x hx hk; omega
    · cases g with
      | true => simp only [if_true] at hx; subst hx; simp only; omega
      | false => simp only [Bool.false_eq_true, if_false] at hx; subst hx; simp at hk
    · subst hx; simp at hk

def gdT (g : Bool) (ns : List Int) : List (List Act) := [gdL g ns ns.length ++ [⟨2, 1, 0, 0⟩], [⟨1, 1, 0, 0⟩]]
structure GuardsOk (g : Bool) (ns : List Int) : Prop where
  ask : askedP (gdT g ns) 1 (List.replicate 200 0) 400 = 0
  how0 : howS (runM 400 (S0 (gdT g ns) 1) (List.replicate 200 0)) 0 = if g then 1 else 2
  how1 : howS (runM 400 (S0 (gdT g ns) 1) (List.replicate 200 0)) 1 = if g then 1 else 4
  reg : (runM 400 (S0 (gdT g ns) 1) (List.replicate 200 0)).regs 7 = if g then ns.getD (ns.length - 1) 0 else 0
  num : g = false → ((runM 400 (S0 (gdT g ns) 1) (List.replicate 200 0)).tk 0).n = ns.getD 0 0

theorem guards_W (old : Nat → Option Blk) (hw : WF ⟨old, .nil, base0⟩) {g : Bool} {pv : Value} {ns : List Int} (hp : RdI ⟨old, .nil, base0⟩ pv (ns.map iv)) (hwf : ∀ z ∈ ns, -9223372036854775808 ≤ z ∧ z ≤ 9223372036854775807)
    (pure : 1 ≤ ns.length → ns.length ≤ 60 → GuardsOk g ns) :
    CW Try.prog 8 #[pv, .bool g] ⟨old, .nil, base0⟩ fun x _ => x = .ret (.bool true) := by
  refine CW_k (n := 149) if8 rfl ?_
  unfold C8
  obtain ⟨pa, pc, hpv, _⟩ := id hp
  simp only [List.length_map] at hpv
  simp (config := { implicitDefEqProofs := false, maxDischargeDepth := 6, maxSteps := 1000000 }) only [go_sem, ↓reduceIte, Nat.reduceLT, Nat.reduceLeDiff, Nat.reduceEqDiff, Nat.reduceAdd, Nat.reduceMul, Nat.reduceSub, Nat.reduceBEq, reduceCtorEq, Int.reduceEq, Int.reduceLT, Int.reduceLE, Int.reduceNeg, Int.reduceToNat, ]
  refine CW_mono _ (begun_law old) ?_
  rintro _ H0 ⟨rfl, hE0⟩
  simp (config := { implicitDefEqProofs := false, maxDischargeDepth := 6, maxSteps := 1000000 }) only [go_sem, ↓reduceIte, Nat.reduceLT, Nat.reduceLeDiff, Nat.reduceEqDiff, Nat.reduceAdd, Nat.reduceMul, Nat.reduceSub, Nat.reduceBEq, reduceCtorEq, Int.reduceEq, Int.reduceLT, Int.reduceLE, Int.reduceNeg, Int.reduceToNat, hpv]
  by_cases c1 : ns.length < 1
  · have c1Z : (ns.length : Int) < 1 := by omega
    simp (config := { implicitDefEqProofs := false, maxDischargeDepth := 6, maxSteps := 1000000 }) only [go_sem, ↓reduceIte, Nat.reduceLT, Nat.reduceLeDiff, Nat.reduceEqDiff, Nat.reduceAdd, Nat.reduceMul, Nat.reduceSub, Nat.reduceBEq, reduceCtorEq, Int.reduceEq, Int.reduceLT, Int.reduceLE, Int.reduceNeg, Int.reduceToNat, c1Z, goInt]
  have c1Z : ¬ (ns.length : Int) < 1 := by omega
  by_cases c2 : 60 < ns.length
  · have c2Z : (60 : Int) < (ns.length : Int) := by omega
    simp (config := { implicitDefEqProofs := false, maxDischargeDepth := 6, maxSteps := 1000000 }) only [go_sem, ↓reduceIte, Nat.reduceLT, Nat.reduceLeDiff, Nat.reduceEqDiff, Nat.reduceAdd, Nat.reduceMul, Nat.reduceSub, Nat.reduceBEq, reduceCtorEq, Int.reduceEq, Int.reduceLT, Int.reduceLE, Int.reduceNeg, Int.reduceToNat, c1Z, c2Z, goInt]
  have c2Z : ¬ (60 : Int) < (ns.length : Int) := by omega
  have hOk := pure (by omega) (by omega)
  have hw0 := hE0.wf
  have hnb0 := hw0.1
  have hp0 : RdI H0 pv (ns.map iv) := hp.of fun b x hb => hE0.of hw hb
  simp (config := { implicitDefEqProofs := false, maxDischargeDepth := 6, maxSteps := 1000000 }) only [go_sem, ↓reduceIte, Nat.reduceLT, Nat.reduceLeDiff, Nat.reduceEqDiff, Nat.reduceAdd, Nat.reduceMul, Nat.reduceSub, Nat.reduceBEq, reduceCtorEq, Int.reduceEq, Int.reduceLT, Int.reduceLE, Int.reduceNeg, Int.reduceToNat, c1Z, c2Z, goInt]
  have hEl := (Ext.refl hw0).alloc (⟨47, 0, false, [.int .i64 1, .int .i64 1, .int .i64 0, .int .i64 0]⟩ : Blk)
  refine Wk_loopF (fun m f G => ∃ k lv, m = ns.length - k ∧ k ≤ ns.length ∧ f.get 0 = some (.slice pa ns.length pc) ∧ f.get 1 = some (.bool g) ∧ f.get 5 = some lv ∧ f.get 6 = some (nv k) ∧ Ext H0 G ∧ LstL H0 G lv (gdL g ns k)) ns.length ?_ ?_
  · refine ⟨0, .slice (some ⟨H0.next, 0, none⟩) 1 1, by omega, by omega, ?_, ?_, ?_, ?_, hEl, .inl ⟨H0.next, rfl, get_alloc_eq hnb0, by simp [gdL]⟩⟩
    all_goals simp (config := { implicitDefEqProofs := false, maxDischargeDepth := 6, maxSteps := 1000000 }) only [go_sem, ↓reduceIte, Nat.reduceLT, Nat.reduceLeDiff, Nat.reduceEqDiff, Nat.reduceAdd, Nat.reduceMul, Nat.reduceSub, Nat.reduceBEq, reduceCtorEq, Int.reduceEq, Int.reduceLT, Int.reduceLE, Int.reduceNeg, Int.reduceToNat, nv]
    rfl
  rintro m f G ⟨k, lv, rfl, hk, f0, f1, f5, f6, hE, hL⟩
  unfold L8_1
  by_cases hlt : k < ns.length
  · have hltZ : (k : Int) < (ns.length : Int) := by omega
    have hk0 : (0 : Int) ≤ (k : Int) := by omega
    have hw1 : IntKind.i64.wrap ((k : Int) + 1) = ((k + 1 : Nat) : Int) := IntWalk.i64_in _ (by omega)
    obtain ⟨la, lc, rfl⟩ := hL.sl
    have hgl := gdL_len g ns k
    have hw2 : IntKind.i64.wrap ((2 * k + 1 : Nat) + 2 : Int) = ((2 * k + 3 : Nat) : Int) := by
      rw [show ((2 * k + 1 : Nat) + 2 : Int) = ((2 * k + 3 : Nat) : Int) by omega]
      exact IntWalk.i64_in _ (by omega)
    have hgd : ns.getD k 0 = ns[k] := by rw [List.getD_eq_getElem?_getD, List.getElem?_eq_getElem hlt]; rfl
    have step : ∀ (a : Act), a = (if g then ⟨13, 0, 0, ((2 * k + 3 : Nat) : Int)⟩ else ⟨11, 0, 0, 0⟩) → ∃ H6 lv', appS (G.alloc ⟨47, 0, false, a.cells⟩) 47 4 32 la (2 * k + 1) lc (.slice (some ⟨G.next, 0, none⟩) 1 1) = some (lv', H6) ∧ Ext H0 H6 ∧ LstL H0 H6 lv' (gdL g ns k ++ [a]) := by
      intro a _
      have := LstL.push (new := [a]) (m := 1) (cells := a.cells) hE hL rfl rfl (by simp) (by rw [hgl]; simp; omega)
      rw [hgl] at this
      exact this
    cases g with
    | true =>
      simp (config := { implicitDefEqProofs := false, maxDischargeDepth := 6, maxSteps := 1000000 }) only [go_sem, ↓reduceIte, Nat.reduceLT, Nat.reduceLeDiff, Nat.reduceEqDiff, Nat.reduceAdd, Nat.reduceMul, Nat.reduceSub, Nat.reduceBEq, reduceCtorEq, Int.reduceEq, Int.reduceLT, Int.reduceLE, Int.reduceNeg, Int.reduceToNat, f0, f1, f5, f6, nv, hltZ, goInt, hgl, hw2]
      obtain ⟨H6, lv', ha, hE6, hL6⟩ := step ⟨13, 0, 0, ((2 * k + 3 : Nat) : Int)⟩ rfl
      refine Wk_vh ha ?_
      obtain ⟨la6, lc6, rfl⟩ := hL6.sl
      obtain ⟨b, o, c, x, hv, hc, hx, hxk⟩ := (hp0.of fun b x hb => hE6.of hw0 hb).at_ (i := k) (by simpa using hlt)
      rw [hpv] at hv
      simp only [Value.slice.injEq, List.length_map, true_and] at hv
      obtain ⟨rfl, rfl⟩ := hv
      simp only [List.getElem_map, iv] at hxk
      have hnb6 := hE6.wf.1
      have hxl := hE6.wf.lt hx
      simp (config := { implicitDefEqProofs := false, maxDischargeDepth := 6, maxSteps := 1000000 }) only [go_sem, ↓reduceIte, Nat.reduceLT, Nat.reduceLeDiff, Nat.reduceEqDiff, Nat.reduceAdd, Nat.reduceMul, Nat.reduceSub, Nat.reduceBEq, reduceCtorEq, Int.reduceEq, Int.reduceLT, Int.reduceLE, Int.reduceNeg, Int.reduceToNat, f0, f1, f5, f6, nv, hltZ, hk0, goInt, hc, hx, hxk]
      obtain ⟨H7, lv7, ha7, hE7, hL7⟩ := LstL.push (new := [⟨12, 0, 0, ns[k]⟩]) (m := 1) (cells := [.int .i64 12, .int .i64 0, .int .i64 0, .int .i64 ns[k]]) hE6 hL6 rfl rfl (by simp) (by rw [List.length_append, hgl]; simp; omega)
      refine Wk_vh ha7 ?_
      simp (config := { implicitDefEqProofs := false, maxDischargeDepth := 6, maxSteps := 1000000 }) only [go_sem, ↓reduceIte, Nat.reduceLT, Nat.reduceLeDiff, Nat.reduceEqDiff, Nat.reduceAdd, Nat.reduceMul, Nat.reduceSub, Nat.reduceBEq, reduceCtorEq, Int.reduceEq, Int.reduceLT, Int.reduceLE, Int.reduceNeg, Int.reduceToNat, f0, f1, f5, f6, nv, hw1]
      refine ⟨ns.length - (k + 1), by omega, k + 1, lv7, rfl, by omega, ?_, ?_, ?_, ?_, hE7, ?_⟩
      · simp (config := { implicitDefEqProofs := false, maxDischargeDepth := 6, maxSteps := 1000000 }) only [go_sem, ↓reduceIte, Nat.reduceLT, Nat.reduceLeDiff, Nat.reduceEqDiff, Nat.reduceAdd, Nat.reduceMul, Nat.reduceSub, Nat.reduceBEq, reduceCtorEq, Int.reduceEq, Int.reduceLT, Int.reduceLE, Int.reduceNeg, Int.reduceToNat, f0]
      · simp (config := { implicitDefEqProofs := false, maxDischargeDepth := 6, maxSteps := 1000000 }) only [go_sem, ↓reduceIte, Nat.reduceLT, Nat.reduceLeDiff, Nat.reduceEqDiff, Nat.reduceAdd, Nat.reduceMul, Nat.reduceSub, Nat.reduceBEq, reduceCtorEq, Int.reduceEq, Int.reduceLT, Int.reduceLE, Int.reduceNeg, Int.reduceToNat, f1]
      · simp (config := { implicitDefEqProofs := false, maxDischargeDepth := 6, maxSteps := 1000000 }) only [go_sem, ↓reduceIte, Nat.reduceLT, Nat.reduceLeDiff, Nat.reduceEqDiff, Nat.reduceAdd, Nat.reduceMul, Nat.reduceSub, Nat.reduceBEq, reduceCtorEq, Int.reduceEq, Int.reduceLT, Int.reduceLE, Int.reduceNeg, Int.reduceToNat, ]
      · simp (config := { implicitDefEqProofs := false, maxDischargeDepth := 6, maxSteps := 1000000 }) only [go_sem, ↓reduceIte, Nat.reduceLT, Nat.reduceLeDiff, Nat.reduceEqDiff, Nat.reduceAdd, Nat.reduceMul, Nat.reduceSub, Nat.reduceBEq, reduceCtorEq, Int.reduceEq, Int.reduceLT, Int.reduceLE, Int.reduceNeg, Int.reduceToNat, nv]
      · rw [← hgd] at hL7; exact hL7
    | false =>
      simp (config := { implicitDefEqProofs := false, maxDischargeDepth := 6, maxSteps := 1000000 }) only [go_sem, ↓reduceIte, Nat.reduceLT, Nat.reduceLeDiff, Nat.reduceEqDiff, Nat.reduceAdd, Nat.reduceMul, Nat.reduceSub, Nat.reduceBEq, reduceCtorEq, Int.reduceEq, Int.reduceLT, Int.reduceLE, Int.reduceNeg, Int.reduceToNat, f0, f1, f5, f6, nv, hltZ, goInt, hgl, hw2]
      obtain ⟨H6, lv', ha, hE6, hL6⟩ := step ⟨11, 0, 0, 0⟩ rfl
      refine Wk_vh ha ?_
      obtain ⟨la6, lc6, rfl⟩ := hL6.sl
      obtain ⟨b, o, c, x, hv, hc, hx, hxk⟩ := (hp0.of fun b x hb => hE6.of hw0 hb).at_ (i := k) (by simpa using hlt)
      rw [hpv] at hv
      simp only [Value.slice.injEq, List.length_map, true_and] at hv
      obtain ⟨rfl, rfl⟩ := hv
      simp only [List.getElem_map, iv] at hxk
      have hnb6 := hE6.wf.1
      have hxl := hE6.wf.lt hx
      simp (config := { implicitDefEqProofs := false, maxDischargeDepth := 6, maxSteps := 1000000 }) only [go_sem, ↓reduceIte, Nat.reduceLT, Nat.reduceLeDiff, Nat.reduceEqDiff, Nat.reduceAdd, Nat.reduceMul, Nat.reduceSub, Nat.reduceBEq, reduceCtorEq, Int.reduceEq, Int.reduceLT, Int.reduceLE, Int.reduceNeg, Int.reduceToNat, f0, f1, f5, f6, nv, hltZ, hk0, goInt, hc, hx, hxk]
      obtain ⟨H7, lv7, ha7, hE7, hL7⟩ := LstL.push (new := [⟨12, 0, 0, ns[k]⟩]) (m := 1) (cells := [.int .i64 12, .int .i64 0, .int .i64 0, .int .i64 ns[k]]) hE6 hL6 rfl rfl (by simp) (by rw [List.length_append, hgl]; simp; omega)
      refine Wk_vh ha7 ?_
      simp (config := { implicitDefEqProofs := false, maxDischargeDepth := 6, maxSteps := 1000000 }) only [go_sem, ↓reduceIte, Nat.reduceLT, Nat.reduceLeDiff, Nat.reduceEqDiff, Nat.reduceAdd, Nat.reduceMul, Nat.reduceSub, Nat.reduceBEq, reduceCtorEq, Int.reduceEq, Int.reduceLT, Int.reduceLE, Int.reduceNeg, Int.reduceToNat, f0, f1, f5, f6, nv, hw1]
      refine ⟨ns.length - (k + 1), by omega, k + 1, lv7, rfl, by omega, ?_, ?_, ?_, ?_, hE7, ?_⟩
      · simp (config := { implicitDefEqProofs := false, maxDischargeDepth := 6, maxSteps := 1000000 }) only [go_sem, ↓reduceIte, Nat.reduceLT, Nat.reduceLeDiff, Nat.reduceEqDiff, Nat.reduceAdd, Nat.reduceMul, Nat.reduceSub, Nat.reduceBEq, reduceCtorEq, Int.reduceEq, Int.reduceLT, Int.reduceLE, Int.reduceNeg, Int.reduceToNat, f0]
      · simp (config := { implicitDefEqProofs := false, maxDischargeDepth := 6, maxSteps := 1000000 }) only [go_sem, ↓reduceIte, Nat.reduceLT, Nat.reduceLeDiff, Nat.reduceEqDiff, Nat.reduceAdd, Nat.reduceMul, Nat.reduceSub, Nat.reduceBEq, reduceCtorEq, Int.reduceEq, Int.reduceLT, Int.reduceLE, Int.reduceNeg, Int.reduceToNat, f1]
      · simp (config := { implicitDefEqProofs := false, maxDischargeDepth := 6, maxSteps := 1000000 }) only [go_sem, ↓reduceIte, Nat.reduceLT, Nat.reduceLeDiff, Nat.reduceEqDiff, Nat.reduceAdd, Nat.reduceMul, Nat.reduceSub, Nat.reduceBEq, reduceCtorEq, Int.reduceEq, Int.reduceLT, Int.reduceLE, Int.reduceNeg, Int.reduceToNat, ]
      · simp (config := { implicitDefEqProofs := false, maxDischargeDepth := 6, maxSteps := 1000000 }) only [go_sem, ↓reduceIte, Nat.reduceLT, Nat.reduceLeDiff, Nat.reduceEqDiff, Nat.reduceAdd, Nat.reduceMul, Nat.reduceSub, Nat.reduceBEq, reduceCtorEq, Int.reduceEq, Int.reduceLT, Int.reduceLE, Int.reduceNeg, Int.reduceToNat, nv]
      · rw [← hgd] at hL7; exact hL7
  have hltZ : ¬ (k : Int) < (ns.length : Int) := by omega
  obtain rfl : k = ns.length := by omega
  have hgl := gdL_len g ns ns.length
  obtain ⟨la, lc, rfl⟩ := hL.sl
  simp (config := { implicitDefEqProofs := false, maxDischargeDepth := 6, maxSteps := 1000000 }) only [go_sem, ↓reduceIte, Nat.reduceLT, Nat.reduceLeDiff, Nat.reduceEqDiff, Nat.reduceAdd, Nat.reduceMul, Nat.reduceSub, Nat.reduceBEq, reduceCtorEq, Int.reduceEq, Int.reduceLT, Int.reduceLE, Int.reduceNeg, Int.reduceToNat, f0, f1, f5, f6, nv, hltZ, goInt]
  refine Wk_loopF (fun m f G2 => ∃ j, m = (2 * ns.length + 1) - j ∧ j ≤ 2 * ns.length + 1 ∧ f.get 0 = some (.slice pa ns.length pc) ∧ f.get 1 = some (.bool g) ∧ f.get 5 = some (.slice la (2 * ns.length + 1) lc) ∧ f.get 7 = some (nv j) ∧ G2 = G) (2 * ns.length + 1) ?_ ?_
  · refine ⟨0, by omega, by omega, ?_, ?_, ?_, ?_, rfl⟩
    all_goals simp (config := { implicitDefEqProofs := false, maxDischargeDepth := 6, maxSteps := 1000000 }) only [go_sem, ↓reduceIte, Nat.reduceLT, Nat.reduceLeDiff, Nat.reduceEqDiff, Nat.reduceAdd, Nat.reduceMul, Nat.reduceSub, Nat.reduceBEq, reduceCtorEq, Int.reduceEq, Int.reduceLT, Int.reduceLE, Int.reduceNeg, Int.reduceToNat, f0, f1, f5, nv, hgl]
    rfl
  clear f0 f1 f5 f6
  rintro m f G2 ⟨j, rfl, hj, f0, f1, f5, f7, hG⟩
  subst hG
  unfold L8_2
  by_cases hlt : j < 2 * ns.length + 1
  · have hltZ : (j : Int) < ((2 * ns.length + 1 : Nat) : Int) := by omega
    have hj0 : (0 : Int) ≤ (j : Int) := by omega
    have hwj : IntKind.i64.wrap ((j : Int) + 1) = ((j + 1 : Nat) : Int) := IntWalk.i64_in _ (by omega)
    obtain ⟨b, o, c, x, hv, hc, hx, hxk, hxn⟩ := hL.acts.fld (i := j) (by omega)
    simp only [Value.slice.injEq, true_and] at hv
    obtain ⟨rfl, rfl⟩ := hv
    have h13 := gdL_13 g ns ns.length _ (List.getElem_mem (l := gdL g ns ns.length) (n := j) (by omega))
    generalize (gdL g ns ns.length)[j]'(by omega) = a at hxk hxn h13
    by_cases hk : a.k = 13
    · have hnZ : ¬ ((2 * ns.length + 1 : Nat) : Int) < a.n := by have := (h13 hk).2; omega
      rw [hk] at hxk
      simp (config := { implicitDefEqProofs := false, maxDischargeDepth := 6, maxSteps := 1000000 }) only [go_sem, ↓reduceIte, Nat.reduceLT, Nat.reduceLeDiff, Nat.reduceEqDiff, Nat.reduceAdd, Nat.reduceMul, Nat.reduceSub, Nat.reduceBEq, reduceCtorEq, Int.reduceEq, Int.reduceLT, Int.reduceLE, Int.reduceNeg, Int.reduceToNat, f0, f1, f5, f7, nv, hltZ, hj0, goInt, hc, hx, hxk, hxn, hnZ, hwj, Nat.add_zero]
      refine ⟨2 * ns.length + 1 - (j + 1), by omega, j + 1, rfl, by omega, ?_, ?_, ?_, ?_, rfl⟩
      · simp (config := { implicitDefEqProofs := false, maxDischargeDepth := 6, maxSteps := 1000000 }) only [go_sem, ↓reduceIte, Nat.reduceLT, Nat.reduceLeDiff, Nat.reduceEqDiff, Nat.reduceAdd, Nat.reduceMul, Nat.reduceSub, Nat.reduceBEq, reduceCtorEq, Int.reduceEq, Int.reduceLT, Int.reduceLE, Int.reduceNeg, Int.reduceToNat, f0]
      · simp (config := { implicitDefEqProofs := false, maxDischargeDepth := 6, maxSteps := 1000000 }) only [go_sem, ↓reduceIte, Nat.reduceLT, Nat.reduceLeDiff, Nat.reduceEqDiff, Nat.reduceAdd, Nat.reduceMul, Nat.reduceSub, Nat.reduceBEq, reduceCtorEq, Int.reduceEq, Int.reduceLT, Int.reduceLE, Int.reduceNeg, Int.reduceToNat, f1]
      · simp (config := { implicitDefEqProofs := false, maxDischargeDepth := 6, maxSteps := 1000000 }) only [go_sem, ↓reduceIte, Nat.reduceLT, Nat.reduceLeDiff, Nat.reduceEqDiff, Nat.reduceAdd, Nat.reduceMul, Nat.reduceSub, Nat.reduceBEq, reduceCtorEq, Int.reduceEq, Int.reduceLT, Int.reduceLE, Int.reduceNeg, Int.reduceToNat, f5]
      · simp (config := { implicitDefEqProofs := false, maxDischargeDepth := 6, maxSteps := 1000000 }) only [go_sem, ↓reduceIte, Nat.reduceLT, Nat.reduceLeDiff, Nat.reduceEqDiff, Nat.reduceAdd, Nat.reduceMul, Nat.reduceSub, Nat.reduceBEq, reduceCtorEq, Int.reduceEq, Int.reduceLT, Int.reduceLE, Int.reduceNeg, Int.reduceToNat, nv]
    · simp (config := { implicitDefEqProofs := false, maxDischargeDepth := 6, maxSteps := 1000000 }) only [go_sem, ↓reduceIte, Nat.reduceLT, Nat.reduceLeDiff, Nat.reduceEqDiff, Nat.reduceAdd, Nat.reduceMul, Nat.reduceSub, Nat.reduceBEq, reduceCtorEq, Int.reduceEq, Int.reduceLT, Int.reduceLE, Int.reduceNeg, Int.reduceToNat, f0, f1, f5, f7, nv, hltZ, hj0, goInt, hc, hx, hxk, hxn, hk, hwj, Nat.add_zero]
      refine ⟨2 * ns.length + 1 - (j + 1), by omega, j + 1, rfl, by omega, ?_, ?_, ?_, ?_, rfl⟩
      · simp (config := { implicitDefEqProofs := false, maxDischargeDepth := 6, maxSteps := 1000000 }) only [go_sem, ↓reduceIte, Nat.reduceLT, Nat.reduceLeDiff, Nat.reduceEqDiff, Nat.reduceAdd, Nat.reduceMul, Nat.reduceSub, Nat.reduceBEq, reduceCtorEq, Int.reduceEq, Int.reduceLT, Int.reduceLE, Int.reduceNeg, Int.reduceToNat, f0]
      · simp (config := { implicitDefEqProofs := false, maxDischargeDepth := 6, maxSteps := 1000000 }) only [go_sem, ↓reduceIte, Nat.reduceLT, Nat.reduceLeDiff, Nat.reduceEqDiff, Nat.reduceAdd, Nat.reduceMul, Nat.reduceSub, Nat.reduceBEq, reduceCtorEq, Int.reduceEq, Int.reduceLT, Int.reduceLE, Int.reduceNeg, Int.reduceToNat, f1]
      · simp (config := { implicitDefEqProofs := false, maxDischargeDepth := 6, maxSteps := 1000000 }) only [go_sem, ↓reduceIte, Nat.reduceLT, Nat.reduceLeDiff, Nat.reduceEqDiff, Nat.reduceAdd, Nat.reduceMul, Nat.reduceSub, Nat.reduceBEq, reduceCtorEq, Int.reduceEq, Int.reduceLT, Int.reduceLE, Int.reduceNeg, Int.reduceToNat, f5]
      · simp (config := { implicitDefEqProofs := false, maxDischargeDepth := 6, maxSteps := 1000000 }) only [go_sem, ↓reduceIte, Nat.reduceLT, Nat.reduceLeDiff, Nat.reduceEqDiff, Nat.reduceAdd, Nat.reduceMul, Nat.reduceSub, Nat.reduceBEq, reduceCtorEq, Int.reduceEq, Int.reduceLT, Int.reduceLE, Int.reduceNeg, Int.reduceToNat, nv]
  have hltZ : ¬ (j : Int) < ((2 * ns.length + 1 : Nat) : Int) := by omega
  simp (config := { implicitDefEqProofs := false, maxDischargeDepth := 6, maxSteps := 1000000 }) only [go_sem, ↓reduceIte, Nat.reduceLT, Nat.reduceLeDiff, Nat.reduceEqDiff, Nat.reduceAdd, Nat.reduceMul, Nat.reduceSub, Nat.reduceBEq, reduceCtorEq, Int.reduceEq, Int.reduceLT, Int.reduceLE, Int.reduceNeg, Int.reduceToNat, f0, f1, f5, f7, nv, hltZ, goInt]
  obtain ⟨H7, lv7, ha7, hE7, hL7⟩ := LstL.push (new := [⟨2, 1, 0, 0⟩]) (m := 1) (cells := [.int .i64 2, .int .i64 1, .int .i64 0, .int .i64 0]) hE hL rfl rfl (by simp) (by rw [hgl]; simp; omega)
  rw [hgl] at ha7
  refine Wk_vh ha7 ?_
  obtain ⟨la7, lc7, rfl⟩ := hL7.sl
  have hnb7 := hE7.wf.1
  simp (config := { implicitDefEqProofs := false, maxDischargeDepth := 6, maxSteps := 1000000 }) only [go_sem, ↓reduceIte, Nat.reduceLT, Nat.reduceLeDiff, Nat.reduceEqDiff, Nat.reduceAdd, Nat.reduceMul, Nat.reduceSub, Nat.reduceBEq, reduceCtorEq, Int.reduceEq, Int.reduceLT, Int.reduceLE, Int.reduceNeg, Int.reduceToNat, f0, f1, f5, nv]
  have hA1 := (Ext.refl hE7.wf).alloc (⟨47, 0, false, [.int .i64 1, .int .i64 1, .int .i64 0, .int .i64 0]⟩ : Blk)
  have hA2 := (Ext.refl hA1.wf).alloc (⟨45, 0, false, [.slice la7 (gdL g ns ns.length ++ [⟨2, 1, 0, 0⟩] : List Act).length lc7, .slice (some ⟨H7.next, 0, none⟩) 1 1]⟩ : Blk)
  have hA3 := (Ext.refl hA2.wf).alloc (⟨3, 0, false, List.replicate 200 (.int .i64 0)⟩ : Blk)
  have hA23 := hA2.trans hA3
  have hA := (hA1.trans hA2).trans hA3
  have hT : TasksAt (((H7.alloc (⟨47, 0, false, [.int .i64 1, .int .i64 1, .int .i64 0, .int .i64 0]⟩ : Blk)).alloc (⟨45, 0, false, [.slice la7 (gdL g ns ns.length ++ [⟨2, 1, 0, 0⟩] : List Act).length lc7, .slice (some ⟨H7.next, 0, none⟩) 1 1]⟩ : Blk)).alloc (⟨3, 0, false, List.replicate 200 (.int .i64 0)⟩ : Blk)) (.slice (some ⟨H7.next + 1, 0, none⟩) 2 2) (gdT g ns) (fun i => if i = 0 then .slice la7 (gdL g ns ns.length ++ [⟨2, 1, 0, 0⟩] : List Act).length lc7 else .slice (some ⟨H7.next, 0, none⟩) 1 1) := by
    refine ⟨⟨_, 2, rfl, fun _ => ⟨by omega, H7.next + 1, 0, _, rfl, hA3.of hA2.wf (get_alloc_eq hA1.wf.1), fun i hi => ?_⟩⟩, fun i hi => ?_⟩
    · have hi : i < 2 := by simpa [gdT] using hi
      match i, hi with
      | 0, _ => rfl
      | 1, _ => rfl
    · match i, hi with
      | 0, _ => exact (hL7.of hE7.wf hA).acts
      | 1, _ => exact lit_acts (l := [⟨1, 1, 0, 0⟩]) (hA23.of hA1.wf (get_alloc_eq hnb7))
  have hpG : RdI (((H7.alloc (⟨47, 0, false, [.int .i64 1, .int .i64 1, .int .i64 0, .int .i64 0]⟩ : Blk)).alloc (⟨45, 0, false, [.slice la7 (gdL g ns ns.length ++ [⟨2, 1, 0, 0⟩] : List Act).length lc7, .slice (some ⟨H7.next, 0, none⟩) 1 1]⟩ : Blk)).alloc (⟨3, 0, false, List.replicate 200 (.int .i64 0)⟩ : Blk)) (.slice (some ⟨H7.next + 1 + 1, 0, none⟩) 200 200) ((List.replicate 200 (0 : Int)).map iv) := by
    refine ⟨_, 200, by rw [List.length_map, List.length_replicate], fun _ => ⟨by omega, H7.next + 1 + 1, 0, _, rfl, get_alloc_eq hA2.wf.1, fun i hi => ?_⟩⟩
    have hi : i < 200 := by rw [List.length_map, List.length_replicate] at hi; exact hi
    simp only [Nat.zero_add, List.map_replicate, List.getElem_replicate]
    rw [List.getElem?_replicate, if_pos hi]; rfl
  refine CW_mono _ (Run_W hA3.wf hT (by simp [gdT]) (room := 1) (most := 400) hpG) ?_
  intro x H1 hR
  obtain ⟨hE1, _, hR⟩ := hR
  obtain ⟨trv, rgv, ev, qsv, qv, rfl, hA'⟩ := hR hOk.ask
  rw [show Int.toNat 400 = 400 from rfl] at hA' ⊢
  have hreg := hOk.reg
  have how0 := hOk.how0
  have how1 := hOk.how1
  have hnum := hOk.num
  have hSN : (runM 400 (S0 (gdT g ns) 1) (List.replicate 200 0)).N = 2 := (runM_N 400 _).1
  generalize runM 400 (S0 (gdT g ns) 1) (List.replicate 200 0) = S at *
  have hw1 := hE1.wf
  have hnb1 := hw1.1
  obtain ⟨ra, rc, rfl⟩ := hA'.regs.sl
  obtain ⟨ea, ec, rfl⟩ := hA'.ends.sl
  obtain ⟨sa, sc, rfl⟩ := hA'.queues.sl
  obtain ⟨ta, tc, rfl⟩ := hA'.trace.sl
  have hEF := ((Ext.refl hw1).alloc (⟨33, 0, false, [.int .i64 0, .slice none 0 0, .slice none 0 0, .slice none 0 0, .slice none 0 0]⟩ : Blk)).set (b := H1.next) (Nat.le_refl _) (by simp only [next_alloc]; omega) (⟨33, 0, false, [.int .i64 S.trace.length, .slice ta S.trace.length tc, .slice ra 8 rc, .slice ea 2 ec, .slice sa 4 sc]⟩ : Blk)
  have hAF := hA'.of hw1 hEF
  have hpF := (hp0.of fun b x hb => hE7.of hw0 hb).of fun b x hb => hEF.of hw1 (hE1.of hA3.wf (hA.of hE7.wf hb))
  clear hA'
  have hrg := hAF.regs.rd.at_ (i := 7) (by simp)
  have hends := hAF.ends
  clear hAF
  rw [hSN] at hends
  have h8 : ((8 : Nat) : Int) = 8 := rfl
  have h2 : ((2 : Nat) : Int) = 2 := rfl
  have m1 : IntKind.i64.wrap ((ns.length : Int) - 1) = ((ns.length - 1 : Nat) : Int) := by
    rw [show (ns.length : Int) - 1 = ((ns.length - 1 : Nat) : Int) by omega]; exact IntWalk.i64_in _ (by omega)
  have m2 : (0 : Int) ≤ ((ns.length - 1 : Nat) : Int) := by omega
  have m3 : ((ns.length - 1 : Nat) : Int) < (ns.length : Int) := by omega
  have m4 : (0 : Int) < (ns.length : Int) := by omega
  obtain ⟨b, o, c, x, hv, hc, hx, hx0⟩ := hrg
  simp only [Value.slice.injEq, List.length_map, List.length_range, true_and] at hv
  obtain ⟨rfl, rfl⟩ := hv
  simp only [List.getElem_map, List.getElem_range, iv, hreg] at hx0
  obtain ⟨b', o', c', x', hv, hc', hx', hy0, hy0n⟩ := pair_at hends (i := 0) (by omega)
  simp only [Value.slice.injEq, true_and] at hv
  obtain ⟨rfl, rfl⟩ := hv
  obtain ⟨b', o', c', x2, hv, _, hx2, hy1, _⟩ := pair_at hends (i := 1) (by omega)
  simp only [Value.slice.injEq, Option.some.injEq, Addr.mk.injEq, true_and, and_true] at hv
  obtain ⟨⟨rfl, rfl⟩, rfl⟩ := hv
  rw [hx'] at hx2
  cases hx2
  rw [how0] at hy0
  rw [how1] at hy1
  simp only [iv, Nat.zero_mul, Nat.add_zero, Nat.one_mul] at hy0 hy0n hy1
  obtain ⟨b3, o3, c3, x3, hv, hc3, hx3, hz0⟩ := hpF.at_ (i := 0) (by simp; omega)
  rw [hpv] at hv
  simp only [Value.slice.injEq, List.length_map, true_and] at hv
  obtain ⟨rfl, rfl⟩ := hv
  obtain ⟨b4, o4, c4, x4, hv, _, hx4, hz1⟩ := hpF.at_ (i := ns.length - 1) (by simp; omega)
  rw [hpv] at hv
  simp only [Value.slice.injEq, Option.some.injEq, Addr.mk.injEq, List.length_map, true_and, and_true] at hv
  obtain ⟨⟨rfl, rfl⟩, rfl⟩ := hv
  rw [hx3] at hx4
  cases hx4
  have hgd0 : ns.getD 0 0 = ns[0]'(by omega) := by rw [List.getD_eq_getElem?_getD, List.getElem?_eq_getElem (by omega)]; rfl
  have hgd1 : ns.getD (ns.length - 1) 0 = ns[ns.length - 1]'(by omega) := by rw [List.getD_eq_getElem?_getD, List.getElem?_eq_getElem (by omega)]; rfl
  simp only [List.getElem_map, iv, Nat.add_zero] at hz0 hz1
  rw [← hgd0] at hz0
  rw [← hgd1] at hz1
  clear hEF hends hpF hL7 hT hpG
  have hcell : ∀ (F : Heap), F = (Heap.set (Heap.alloc H1 ⟨33, 0, false, [.int .i64 0, .slice none 0 0, .slice none 0 0, .slice none 0 0, .slice none 0 0]⟩) H1.next ⟨33, 0, false, [.int .i64 S.trace.length, .slice ta S.trace.length tc, .slice (some ⟨b, o, none⟩) 8 rc, .slice (some ⟨b', o', none⟩) 2 ec, .slice sa 4 sc]⟩) → F.get H1.next = some ⟨33, 0, false, [.int .i64 S.trace.length, .slice ta S.trace.length tc, .slice (some ⟨b, o, none⟩) 8 rc, .slice (some ⟨b', o', none⟩) 2 ec, .slice sa 4 sc]⟩ := by
    rintro F rfl; exact get_set_eq hnb1
  cases g with
  | true =>
    simp only [if_true] at hx0 hy0 hy1
    simp (config := { implicitDefEqProofs := false, maxDischargeDepth := 6, maxSteps := 1000000 }) only [go_sem, ↓reduceIte, Nat.reduceLT, Nat.reduceLeDiff, Nat.reduceEqDiff, Nat.reduceAdd, Nat.reduceMul, Nat.reduceSub, Nat.reduceBEq, reduceCtorEq, Int.reduceEq, Int.reduceLT, Int.reduceLE, Int.reduceNeg, Int.reduceToNat, f0, f1, nv, loads_eq, hnb1, hSN, goInt, h8, h2, hc, hx, hx0, hc', hx', hy0, hy1, hc3, hx3, hz0, hz1, m1, m2, m3, m4, Nat.add_zero]
  | false =>
    simp only [Bool.false_eq_true, if_false] at hx0 hy0 hy1
    have hl2 : o' + 2 ≤ x'.cells.length := by
      have := (List.getElem?_eq_some_iff.1 hy0n).1
      omega
    have ht2 : (x'.cells.drop o').take 2 = [.int .i64 2, .int .i64 (ns.getD 0 0)] := by
      rw [hnum rfl] at hy0n
      apply List.ext_getElem?
      intro i
      rw [List.getElem?_take]
      split
      · rename_i hi
        rw [List.getElem?_drop]
        match i, hi with
        | 0, _ => rw [Nat.add_zero, hy0]; rfl
        | 1, _ => rw [hy0n]; rfl
      · rename_i hi
        rw [List.getElem?_eq_none (by simp; omega)]
    simp (config := { implicitDefEqProofs := false, maxDischargeDepth := 6, maxSteps := 1000000 }) only [go_sem, ↓reduceIte, Nat.reduceLT, Nat.reduceLeDiff, Nat.reduceEqDiff, Nat.reduceAdd, Nat.reduceMul, Nat.reduceSub, Nat.reduceBEq, reduceCtorEq, Int.reduceEq, Int.reduceLT, Int.reduceLE, Int.reduceNeg, Int.reduceToNat, f0, f1, nv, loads_eq, hnb1, hSN, goInt, h8, h2, hc, hx, hx0, hc', hx', hy0, hy1, hc3, hx3, hz0, hz1, m1, m2, m3, m4, Nat.add_zero, hl2, ht2]
end Go.Am.T
