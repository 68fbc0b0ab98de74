/- Functions with one deferred closure that recovers first. Conditions: those of each theorem. -/
import Derived.Test.YthanhcpnhionaaaAmV
set_option linter.all false
set_option linter.unusedSimpArgs false
set_option linter.unusedVariables false
namespace Go.Am

section
variable {P : Program}

theorem runOpsS_no {cl : Cl} {ops : Array Oper} : ∀ (l : List Oper), l.all (fun o => !isRec o) = true → ∀ (p : Option Value) (s : St), runOpsS P cl ops l p s = (runOps P cl ops l s).map fun (e, s) => (e, p, s)
  | [], _, p, s => rfl
  | o :: l, h, p, s => by
    simp only [List.all_cons, Bool.and_eq_true, Bool.not_eq_true'] at h
    simp only [runOpsS, runOps, h.1, Bool.false_eq_true, if_false]
    split
    · cases doOp P cl o s with
      | none => rfl
      | some q =>
        obtain ⟨e, s'⟩ := q
        cases e with
        | normal => exact runOpsS_no l h.2 p s'
        | _ => rfl
    · exact runOpsS_no l h.2 p _

def noRec : Code → Bool
  | .seq a b => noRec a && noRec b
  | .cond _ a b => noRec a && noRec b
  | .region _ ops draw => draw || !ops.any isRec
  | _ => true

theorem codeS_no : ∀ (c : Code), noRec c = true → ∀ (p : Option Value) (s : St), codeS P (callW P) (execW P) c p s = (execW P c s).map fun (e, s) => (e, p, s) := by
  intro c
  induction c with
  | seq a b iha ihb =>
    intro h p s
    simp only [noRec, Bool.and_eq_true] at h
    simp only [codeS, iha h.1, execW_seq]
    cases execW P a s with
    | none => rfl
    | some q =>
      obtain ⟨e, s'⟩ := q
      cases e with
      | normal => exact ihb h.2 p s'
      | _ => rfl
  | cond o a b iha ihb =>
    intro h p s
    simp only [noRec, Bool.and_eq_true] at h
    have iha := iha h.1 p s
    have ihb := ihb h.2 p s
    simp only [codeS, execW_cond]
    cases s.ev o with
    | none => rfl
    | some v =>
      cases v with
      | bool t =>
        cases t
        · exact ihb
        · exact iha
      | _ => rfl
  | region i ops draw =>
    intro h p s
    simp only [noRec] at h
    simp only [codeS, h, if_true]
  | _ => intro h p s; rfl

structure RFn where
  nt : Nat
  d : Tmp
  l : List IOp
  c : IC

def splitRec : Code → Option (Tmp × List IOp × IC)
  | .seq (.region _ ops false) b =>
    match ops.toList with
    | o :: rest =>
      match o.guard, o.dst with
      | none, some d => if isRec o && rest.all (fun o => !isRec o) && noRec b then (cmpL ops rest).map fun l => (d, l, cmpC b) else none
      | _, _ => none
    | _ => none
  | _ => none

variable (P) in
def rfn (f : FuncId) : Option RFn := (P.funcs[f]?).bind fun fn => if fn.results.isEmpty then fn.body.bind fun c => (splitRec c).map fun (d, l, c) => { nt := fn.ntmps, d := d, l := l, c := c } else none

/- what a recover gives -/
def recV : Option Value → Value
  | some v => v
  | none => .nilIface

theorem splitRec_run {c : Code} {d : Tmp} {l : List IOp} {ic : IC} (h : splitRec c = some (d, l, ic)) {p : Option Value} {s : St} {Q : Ex → St → Prop}
    (hw : Wk P [.l l, .c ic] (some (s.put (some d) (recV p))) Q) : ∃ e s', codeS P (callW P) (execW P) c p s = some (e, none, s') ∧ Q e s' := by
  unfold splitRec at h
  split at h
  case h_2 => cases h
  rename_i i ops b
  split at h
  case h_2 => cases h
  rename_i o rest hops
  split at h
  case h_2 => cases h
  rename_i d' hg hd
  split at h
  case isFalse => cases h
  rename_i hc
  simp only [Bool.and_eq_true] at hc
  obtain ⟨⟨hro, hrr⟩, hnb⟩ := hc
  obtain ⟨l', hl, e⟩ := map_some' h
  simp only [Prod.mk.injEq] at e
  obtain ⟨rfl, rfl, rfl⟩ := e
  rw [Wk_some] at hw
  obtain ⟨e1, s1, h1, h2⟩ := WL_run P (ops := ops) rest l' hl (s.put (some d') (recV p)) _ hw
  have hany : ops.any isRec = true := by
    rw [Array.any_eq_true']
    exact ⟨o, by rw [← Array.mem_toList_iff, hops]; simp, hro⟩
  have hreg : codeS P (callW P) (execW P) (.region i ops false) p s = some (e1, none, s1) := by
    simp only [codeS, hany, Bool.not_true, Bool.or_self, Bool.false_eq_true, if_false, hops]
    have hwa : wantedA o ops s = true := by unfold wantedA; rw [hg]
    simp only [runOpsS, hwa, hro, if_true, hd]
    cases p with
    | some v =>
      simp only [runOpsS_no rest hrr]
      have : runOps P (callW P) ops rest (s.put (some d') v) = some (e1, s1) := h1
      rw [this]; rfl
    | none =>
      simp only [runOpsS_no rest hrr]
      have : runOps P (callW P) ops rest (s.put (some d') .nilIface) = some (e1, s1) := h1
      rw [this]; rfl
  cases e1 with
  | normal =>
    obtain ⟨e2, s2, h3, h4⟩ := Wq_sound P b s1 _ h2
    refine ⟨e2, s2, ?_, ?_⟩
    · simp only [codeS] at hreg ⊢
      rw [hreg]
      simp only [codeS_no b hnb, h3, Option.map_some]
    · cases e2 <;> exact h4
  | exit j => exact ⟨.exit j, s1, by simp only [codeS] at hreg ⊢; rw [hreg], h2⟩
  | ret => exact ⟨.ret, s1, by simp only [codeS] at hreg ⊢; rw [hreg], h2⟩
  | panic v => exact ⟨.panic v, s1, by simp only [codeS] at hreg ⊢; rw [hreg], h2⟩

/- behind the deferred closure -/
def endD (Q : CR → Heap → Prop) : Ex → St → Prop
  | .normal, s => s.d = [] ∧ Q (.ret (.tuple #[])) s.H
  | .ret, s => s.d = [] ∧ Q (.ret (.tuple #[])) s.H
  | _, _ => False

/- the deferred closure -/
def runDf (P : Program) (k2 : Nat) (d2 : Tmp) (l2 : List IOp) (c2 : IC) (p : Option Value) (cap args : Array Value) (H : Heap) (Q : CR → Heap → Prop) : Prop :=
  Wk P [.l l2, .c c2] (putO (some d2) (Nat.max k2 (args ++ cap).size) (ofArgs 0 (args ++ cap).toList) [] H (some (recV p))) (endD Q)
def dfrQ (P : Program) (g2 : FuncId) (k2 : Nat) (d2 : Tmp) (l2 : List IOp) (c2 : IC) (Q : CR → Heap → Prop) (e : Ex) (s : St) : Prop :=
  ∃ cap args, s.d = [{ target := .fn (.func g2) cap, args := args }] ∧
    match e with
    | .normal | .ret => runDf P k2 d2 l2 c2 none cap args s.H Q
    | .panic v => runDf P k2 d2 l2 c2 (some v) cap args s.H Q
    | .exit _ => False

section
variable {g2 : FuncId} {k2 : Nat} {d2 : Tmp} {l2 : List IOp} {c2 : IC} {Q : CR → Heap → Prop} {n : Nat} {f : Tr Value} {H : Heap} {cap args : Array Value}
@[go_sem ↓] theorem dfrQ_n : Wk P [] (some ⟨n, f, [{ target := .fn (.func g2) cap, args := args }], H⟩) (dfrQ P g2 k2 d2 l2 c2 Q) = runDf P k2 d2 l2 c2 none cap args H Q := by
  rw [Wk_some]
  refine propext ⟨?_, fun h => ⟨cap, args, rfl, h⟩⟩
  rintro ⟨cap', args', h, k⟩
  simp only [List.cons.injEq, and_true, Deferred.mk.injEq, Target.fn.injEq, true_and] at h
  obtain ⟨rfl, rfl⟩ := h
  exact k
@[go_sem ↓] theorem dfrQ_r : We P .ret [] (some ⟨n, f, [{ target := .fn (.func g2) cap, args := args }], H⟩) (dfrQ P g2 k2 d2 l2 c2 Q) = runDf P k2 d2 l2 c2 none cap args H Q := by
  rw [We_some]
  refine propext ⟨?_, fun h => ⟨cap, args, rfl, h⟩⟩
  rintro ⟨cap', args', h, k⟩
  simp only [List.cons.injEq, and_true, Deferred.mk.injEq, Target.fn.injEq, true_and] at h
  obtain ⟨rfl, rfl⟩ := h
  exact k
@[go_sem ↓] theorem dfrQ_p {v : Value} : We P (.panic v) [] (some ⟨n, f, [{ target := .fn (.func g2) cap, args := args }], H⟩) (dfrQ P g2 k2 d2 l2 c2 Q) = runDf P k2 d2 l2 c2 (some v) cap args H Q := by
  rw [We_some]
  refine propext ⟨?_, fun h => ⟨cap, args, rfl, h⟩⟩
  rintro ⟨cap', args', h, k⟩
  simp only [List.cons.injEq, and_true, Deferred.mk.injEq, Target.fn.injEq, true_and] at h
  obtain ⟨rfl, rfl⟩ := h
  exact k
@[go_sem ↓] theorem endD_n : Wk P [] (some ⟨n, f, [], H⟩) (endD Q) = Q (.ret (.tuple #[])) H := by
  rw [Wk_some]; exact propext ⟨fun h => h.2, fun h => ⟨rfl, h⟩⟩
@[go_sem ↓] theorem endD_r : We P .ret [] (some ⟨n, f, [], H⟩) (endD Q) = Q (.ret (.tuple #[])) H := by
  rw [We_some]; exact propext ⟨fun h => h.2, fun h => ⟨rfl, h⟩⟩
end

theorem CW_d {g g2 : FuncId} {k : Nat} {c : IC} (hf : ifn P g = some ⟨k, c, []⟩) {k2 : Nat} {d2 : Tmp} {l2 : List IOp} {c2 : IC} (hr : rfn P g2 = some ⟨k2, d2, l2, c2⟩) {args : Array Value} {n : Nat} (hn : Nat.max k args.size = n) {H : Heap} {Q : CR → Heap → Prop}
    (h : Wk P [.c c] (some ⟨n, ofArgs 0 args.toList, [], H⟩) (dfrQ P g2 k2 d2 l2 c2 Q)) : CW P g args H Q := by
  subst hn
  unfold ifn at hf
  obtain ⟨fn, hfn, h1⟩ := bind_some (x := P.funcs[g]?) hf
  obtain ⟨c0, hc, h2⟩ := map_some h1
  simp only [IFn.mk.injEq] at h2
  obtain ⟨rfl, rfl, hres⟩ := h2
  have hres : fn.results = #[] := by cases hq : fn.results with | mk l => rw [hq] at hres; subst hres; rfl
  rw [Wk_some] at h
  have h' : Wq P (cmpC c0) ⟨Nat.max fn.ntmps args.size, ofArgs 0 args.toList, [], H⟩ (dfrQ P g2 k2 d2 l2 c2 Q) := Wq_mono P _ h (fun e s h => by cases e <;> exact h)
  obtain ⟨e, s', h3, h4⟩ := Wq_sound P c0 _ _ h'
  obtain ⟨cap, args', hd, h4⟩ := h4
  unfold rfn at hr
  obtain ⟨gn, hgn, h5⟩ := bind_some (x := P.funcs[g2]?) hr
  split at h5
  case isFalse => cases h5
  rename_i hge
  obtain ⟨cg, hcg, h6⟩ := bind_some (x := gn.body) h5
  obtain ⟨⟨d', l', c'⟩, h7, h8⟩ := map_some' h6
  simp only [RFn.mk.injEq] at h8
  obtain ⟨rfl, rfl, rfl, rfl⟩ := h8
  have hge' : gn.results = #[] := by simpa using hge
  have run : ∀ p, runDf P gn.ntmps d' l' c' p cap args' s'.H Q → ∃ r H', unwindA P (callW P) (execW P) fn s' s'.d p s'.H = some (r, H') ∧ Q r H' := by
    intro p hp
    have hp' : Wk P [.l l', .c c'] (some ((enterA gn (args' ++ cap) s'.H).put (some d') (recV p))) (endD Q) := hp
    obtain ⟨e2, s2, h9, h10⟩ := splitRec_run h7 hp'
    rw [hd]
    simp only [unwindA, hgn, hcg, Option.bind_eq_bind, Option.bind_some, h9]
    have hrg : resultsA P gn s2 = some (.tuple #[]) := by unfold resultsA; rw [hge']; rfl
    have hrf : ∀ s3 : St, resultsA P fn s3 = some (.tuple #[]) := by intro s3; unfold resultsA; rw [hres]; rfl
    cases e2 with
    | normal =>
      obtain ⟨h11, h12⟩ := h10
      refine ⟨_, _, ?_, h12⟩
      dsimp only
      rw [h11]
      simp only [List.isEmpty_nil, if_true, hrg, Option.bind_some, unwindA, hrf, Option.map_some]
    | ret =>
      obtain ⟨h11, h12⟩ := h10
      refine ⟨_, _, ?_, h12⟩
      dsimp only
      rw [h11]
      simp only [List.isEmpty_nil, if_true, hrg, Option.bind_some, unwindA, hrf, Option.map_some]
    | exit j => exact h10.elim
    | panic v => exact h10.elim
  unfold CW
  rw [callW_eq]
  unfold callA
  simp only [hfn, hc, Option.bind_eq_bind, Option.bind_some]
  have he : execW P c0 (enterA fn args H) = some (e, s') := h3
  rw [he]
  cases e with
  | normal => exact run none h4
  | ret => exact run none h4
  | panic v =>
    have hem : (fn.results.isEmpty || s'.d.isEmpty) = true := by rw [hres]; rfl
    show ∃ r H', (if (fn.results.isEmpty || s'.d.isEmpty) = true then unwindA P (callW P) (execW P) fn s' s'.d (some v) s'.H else none) = some (r, H') ∧ Q r H'
    rw [if_pos hem]
    exact run (some v) h4
  | exit i => exact h4.elim
end
end Go.Am
