/- Code, deferred calls and calls of the abstract machine stand for the world's, given that regions do. Conditions: those of each theorem. -/
import Derived.Test.YthanhcpnhionaaaAmReg
set_option linter.all false
set_option linter.unusedSimpArgs false
set_option linter.unusedVariables false
namespace Go.Am
open Go.RowKit

section
variable {P : Program}

/- the loop from behind its first step on -/
def LW (P : Program) (c : Code) (Q : Exit → Act → World → Prop) (a : Act) (w : World) : Prop :=
  ∀ (b : Frame) (k : List Item) (cs : List Frame), ∃ e a' w', Q e a' w' ∧ Arrives P (lone (b.at a (.code c :: .inLoop c :: k)) cs w) b k cs e a' w'

theorem wp_of_LW {c : Code} {Q : Exit → Act → World → Prop} {a : Act} {w : World} (h : LW P c Q a w) : (Code.loop c).wp P Q a w :=
  fun b k cs => let ⟨e, a', w', q, r⟩ := h b k cs; ⟨e, a', w', q, .of_steps (.one step_loop) r⟩

theorem LW_of_wp {c : Code} {Q : Exit → Act → World → Prop} {a : Act} {w : World} (h : c.wp P (Exit.then (LW P c Q) Q) a w) : LW P c Q a w := by
  intro b k cs
  obtain ⟨e, a₁, w₁, hq, harr⟩ := h b (.inLoop c :: k) cs
  cases e with
  | normal =>
    obtain ⟨e₂, a₂, w₂, hq₂, harr₂⟩ := hq b k cs
    exact ⟨e₂, a₂, w₂, hq₂, .of_steps (Steps.trans harr (.one step_inLoop)) harr₂⟩
  | exit id => exact ⟨_, a₁, w₁, hq, .pass (x := .inLoop c) rfl (fun _ _ => .inl (by simp)) harr⟩
  | goto l => exact ⟨_, a₁, w₁, hq, .pass (x := .inLoop c) rfl (fun _ _ => .inl (by simp)) harr⟩
  | ret => exact ⟨_, a₁, w₁, hq, .pass (x := .inLoop c) rfl (fun _ _ => .inl (by simp)) harr⟩
  | panic ch => exact ⟨_, a₁, w₁, hq, .pass (x := .inLoop c) rfl (fun _ _ => .inl (by simp)) harr⟩
  | outgrown => exact ⟨_, a₁, w₁, hq, .pass (x := .inLoop c) rfl (fun _ _ => .inl (by simp)) harr⟩

theorem LW.mono {c : Code} {Q Q' : Exit → Act → World → Prop} {a : Act} {w : World} (h : LW P c Q a w) (hq : ∀ e a w, Q e a w → Q' e a w) : LW P c Q' a w :=
  fun b k cs => let ⟨e, a', w', q, r⟩ := h b k cs; ⟨e, a', w', hq _ _ _ q, r⟩

abbrev CodeRun := Code → St → Option (Ex × St)

/- code is sound -/
def SoundX (P : Program) (ex : CodeRun) : Prop := ∀ c s e s', ex c s = some (e, s') → ∀ β X base a w, SR β X base s a w →
  c.wp P (Post β X base w e s') a w ∧ ∀ b, c = .loop b → LW P b (Post β X base w e s') a w

/- drawing regions are sound -/
def SoundD (P : Program) (cl : Cl) : Prop := ∀ id ops s e s', regionD P cl ops s = some (e, s') → ∀ β X base a w, SR β X base s a w → (Code.region id ops true).wp P (Post β X base w e s') a w

theorem Post.trans {β β1 : Ren} {X : XF} {base : Nat} {w0 w1 : World} {e : Ex} {s : St} (l : Le β β1) (b : Below base w0 w1) {e2 : Exit} {a2 : Act} {w2 : World}
    (h : Post β1 X base w1 e s e2 a2 w2) : Post β X base w0 e s e2 a2 w2 := by
  obtain ⟨β', l', he, hs, b'⟩ := h
  exact ⟨β', l.trans l', he, hs, b.trans b'⟩

theorem eval_bool {β : Ren} {s : St} {a : Act} (h : FR β s a) {c : Operand} {t : Bool} (hc : s.ev c = some (.bool t)) : a.eval c = .bool t := by
  have := h.ev c _ hc
  generalize a.eval c = v at this
  cases this
  rfl

theorem stepC_sound {cl : Cl} {ex : CodeRun} (hN : NameOk P) (hcl : SoundK P cl) (hD : SoundD P cl) (hx : SoundX P ex) : SoundX P (stepC P cl ex) := by
  intro c s e s' h β X base a w hs
  cases c with
  | skip =>
    simp only [stepC, Option.some.injEq, Prod.mk.injEq] at h
    obtain ⟨rfl, rfl⟩ := h
    exact ⟨wp_skip ⟨β, Le.refl β, .normal, hs, Below.refl _ _⟩, fun b hb => by cases hb⟩
  | region id ops draw =>
    refine ⟨?_, fun b hb => by cases hb⟩
    simp only [stepC] at h
    cases draw with
    | true => exact hD id ops s e s' h β X base a w hs
    | false =>
      refine wp_region ?_
      have := runOps_sound hN hcl ops X base w β e s' ops.toList 0 s β a w (by simp) h (Le.refl β) hs (Below.refl _ _)
      simpa [List.range_eq_range'] using this
  | seq x y =>
    refine ⟨?_, fun b hb => by cases hb⟩
    simp only [stepC] at h
    refine wp_seq ?_
    cases h1 : ex x s with
    | none => rw [h1] at h; cases h
    | some q =>
      obtain ⟨e1, s1⟩ := q
      rw [h1] at h
      refine wp_mono (hx x s e1 s1 h1 β X base a w hs).1 ?_
      intro e2 a2 w2 hp
      obtain ⟨β', l, he, hs', b'⟩ := hp
      cases he with
      | normal =>
        exact wp_mono (hx y s1 e s' h β' X base a2 w2 hs').1 fun _ _ _ hp => hp.trans l b'
      | exit id => simp only [Option.some.injEq, Prod.mk.injEq] at h; obtain ⟨rfl, rfl⟩ := h; exact ⟨β', l, .exit id, hs', b'⟩
      | ret => simp only [Option.some.injEq, Prod.mk.injEq] at h; obtain ⟨rfl, rfl⟩ := h; exact ⟨β', l, .ret, hs', b'⟩
      | panic hv => simp only [Option.some.injEq, Prod.mk.injEq] at h; obtain ⟨rfl, rfl⟩ := h; exact ⟨β', l, .panic hv, hs', b'⟩
  | cond c x y =>
    refine ⟨?_, fun b hb => by cases hb⟩
    simp only [stepC] at h
    split at h
    · rename_i t hc
      refine wp_cond (eval_bool hs.fr hc) ?_
      exact (hx _ s e s' h β X base a w hs).1
    · cases h
  | block id x =>
    refine ⟨?_, fun b hb => by cases hb⟩
    simp only [stepC] at h
    refine wp_block ?_
    cases h1 : ex x s with
    | none => rw [h1] at h; cases h
    | some q =>
      obtain ⟨e1, s1⟩ := q
      rw [h1] at h
      refine wp_mono (hx x s e1 s1 h1 β X base a w hs).1 ?_
      intro e2 a2 w2 hp
      obtain ⟨β', l, he, hs', b'⟩ := hp
      cases he with
      | exit id' =>
        simp only at h
        split at h
        · rename_i hid
          simp only [Option.some.injEq, Prod.mk.injEq] at h
          obtain ⟨rfl, rfl⟩ := h
          simp only [Exit.inBlock, hid, if_true]
          exact ⟨β', l, .normal, hs', b'⟩
        · rename_i hid
          simp only [Option.some.injEq, Prod.mk.injEq] at h
          obtain ⟨rfl, rfl⟩ := h
          simp only [Exit.inBlock, hid, if_false]
          exact ⟨β', l, .exit id', hs', b'⟩
      | normal => simp only [Option.some.injEq, Prod.mk.injEq] at h; obtain ⟨rfl, rfl⟩ := h; exact ⟨β', l, .normal, hs', b'⟩
      | ret => simp only [Option.some.injEq, Prod.mk.injEq] at h; obtain ⟨rfl, rfl⟩ := h; exact ⟨β', l, .ret, hs', b'⟩
      | panic hv => simp only [Option.some.injEq, Prod.mk.injEq] at h; obtain ⟨rfl, rfl⟩ := h; exact ⟨β', l, .panic hv, hs', b'⟩
  | loop x =>
    simp only [stepC] at h
    have key : LW P x (Post β X base w e s') a w := by
      refine LW_of_wp ?_
      cases h1 : ex x s with
      | none => rw [h1] at h; cases h
      | some q =>
        obtain ⟨e1, s1⟩ := q
        rw [h1] at h
        refine wp_mono (hx x s e1 s1 h1 β X base a w hs).1 ?_
        intro e2 a2 w2 hp
        obtain ⟨β', l, he, hs', b'⟩ := hp
        cases he with
        | normal => exact ((hx (.loop x) s1 e s' h β' X base a2 w2 hs').2 x rfl).mono fun _ _ _ hp => hp.trans l b'
        | exit id => simp only [Option.some.injEq, Prod.mk.injEq] at h; obtain ⟨rfl, rfl⟩ := h; exact ⟨β', l, .exit id, hs', b'⟩
        | ret => simp only [Option.some.injEq, Prod.mk.injEq] at h; obtain ⟨rfl, rfl⟩ := h; exact ⟨β', l, .ret, hs', b'⟩
        | panic hv => simp only [Option.some.injEq, Prod.mk.injEq] at h; obtain ⟨rfl, rfl⟩ := h; exact ⟨β', l, .panic hv, hs', b'⟩
    exact ⟨wp_of_LW key, fun b hb => by cases hb; exact key⟩
  | exit id =>
    simp only [stepC, Option.some.injEq, Prod.mk.injEq] at h
    obtain ⟨rfl, rfl⟩ := h
    exact ⟨wp_exit ⟨β, Le.refl β, .exit id, hs, Below.refl _ _⟩, fun b hb => by cases hb⟩
  | ret =>
    simp only [stepC, Option.some.injEq, Prod.mk.injEq] at h
    obtain ⟨rfl, rfl⟩ := h
    exact ⟨wp_ret ⟨β, Le.refl β, .ret, hs, Below.refl _ _⟩, fun b hb => by cases hb⟩
  | _ => simp [stepC] at h

/- entering -/
theorem ofArgs_get : ∀ (vs : List Value) (i t : Nat), (ofArgs i vs).get t = if i ≤ t then vs[t - i]? else none
  | [], i, t => by simp [ofArgs]
  | v :: vs, i, t => by
    simp only [ofArgs, Tr.get_put]
    by_cases e : t = i
    · subst e; simp
    · rw [if_neg e, ofArgs_get vs (i + 1) t]
      by_cases h : i + 1 ≤ t
      · rw [if_pos h, if_pos (by omega)]
        have : t - i = (t - (i + 1)) + 1 := by omega
        rw [this]; rfl
      · rw [if_neg h, if_neg (by omega)]

theorem enter_FR {β : Ren} {fn : Func} {args args' : Array Value} {H : Heap} (h : LR β args.toList args'.toList) (ds : List Deferred) :
    FR β (enterA fn args H) { tmps := args' ++ Array.replicate (fn.ntmps - args'.size) undef, defers := ds } := by
  have hl : args.size = args'.size := by have := h.1; simpa using this
  have hn : (enterA fn args H).n = Nat.max fn.ntmps args.size := rfl
  have hmax : Nat.max fn.ntmps args.size = args'.size + (fn.ntmps - args'.size) := by rw [hl]; show max fn.ntmps args'.size = _; omega
  refine ⟨by rw [hn, hmax]; simp, fun t ht => ?_, fun t ht => ?_⟩
  · rw [hn, hmax] at ht
    have hs : (enterA fn args H).slot t = (args.toList[t]?).getD undef := by simp [St.slot, enterA, ofArgs_get]
    rw [hs]
    by_cases h1 : t < args'.size
    · have h2 : t < args.size := by omega
      obtain ⟨u', e, r⟩ := h.get (i := t) (u := args[t]) (by simp [h2])
      refine ⟨u', ?_, by simpa [h2] using r⟩
      show (args' ++ Array.replicate (fn.ntmps - args'.size) undef)[t]? = some u'
      rw [Array.getElem?_append_left h1]
      simpa using e
    · refine ⟨undef, ?_, ?_⟩
      · show (args' ++ Array.replicate (fn.ntmps - args'.size) undef)[t]? = some undef
        rw [Array.getElem?_append_right (by omega)]
        simp [Array.getElem?_replicate]
        omega
      · have : args.toList[t]? = none := by simp; omega
        rw [this]; exact .undef β
  · show (ofArgs 0 args.toList).get t = none
    rw [hn, hmax] at ht
    rw [ofArgs_get]
    simp
    omega

/- results -/
def resSem (tmps : Array Value) : ResultVar → Sem Value
  | .tmp t => pure (tmps.getD t undef)
  | .cell b t => do loadVar t (← asAddr (tmps.getD b undef))

theorem results_eq (fn : Func) (tmps : Array Value) : results fn tmps = (do let vs ← fn.results.mapM (resSem tmps); pure (if h : vs.size = 1 then vs[0] else .tuple vs)) := by
  unfold results
  congr 2

theorem results_sound {fn : Func} {s : St} {a : Act} {β : Ren} {X : XF} {base : Nat} {w : World} {v : Value} (hf : FR β s a) (hr : HR β s.H X base w) (h : resultsA P fn s = some v) :
    ∃ v', (results fn a.tmps).run P w = .ok v' w ∧ VR β v v' := by
  unfold resultsA at h
  obtain ⟨vs, hvs, h1⟩ := bind_some h
  have key : ∀ (rs : List ResultVar) (vs : List Value), rs.mapM (resultA P s) = some vs → ∃ vs', (rs.mapM (resSem a.tmps)).run P w = Result.ok vs' w ∧ LR β vs vs' := by
    intro rs
    induction rs with
    | nil => intro vs h; simp at h; subst h; exact ⟨[], by simp, .nil β⟩
    | cons r rs ih =>
      intro vs h
      rw [List.mapM_cons] at h
      obtain ⟨u, hu, h1⟩ := bind_some h
      obtain ⟨us, hus, h2⟩ := bind_some h1
      cases h2
      obtain ⟨us', e, r'⟩ := ih us hus
      have hone : ∃ u', (resSem a.tmps r).run P w = .ok u' w ∧ VR β u u' := by
        cases r with
        | tmp t =>
          have hu' : s.ev (.tmp t) = some u := hu
          exact ⟨a.tmps.getD t undef, rfl, hf.ev _ _ hu'⟩
        | cell b t =>
          have hu' : loadA P s.H t (s.slot b) = some u := hu
          have rr : VR β (s.slot b) (a.tmps.getD b undef) := hf.ev (.tmp b) _ rfl
          simp only [resSem]
          generalize s.slot b = p at hu' rr
          generalize a.tmps.getD b undef = p' at rr
          cases rr with
          | ptr ha =>
            obtain ⟨u', e2, r2⟩ := run_loadVar (P := P) hr hu' ha
            exact ⟨u', by simp only [asAddr, Sem.run_bind, Sem.run_pure, Result.andThen_ok, e2], r2⟩
          | _ => simp [loadA] at hu'
      obtain ⟨u', e2, r2⟩ := hone
      exact ⟨u' :: us', by simp only [List.mapM_cons, Sem.run_bind, Sem.run_pure, Result.andThen_ok, e, e2], .cons r2 r'⟩
  obtain ⟨vs', e, r⟩ := key fn.results.toList vs hvs
  have hrun : (results fn a.tmps).run P w = .ok (if h : vs'.toArray.size = 1 then vs'.toArray[0] else .tuple vs'.toArray) w := by
    rw [results_eq, Array.mapM_eq_mapM_toList]
    simp [e]
  rw [hrun]
  refine ⟨_, rfl, ?_⟩
  cases vs with
  | nil =>
    cases h1
    have : vs' = [] := List.length_eq_zero_iff.1 (by rw [← r.1]; rfl)
    subst this
    exact .undef β
  | cons x xs =>
    cases vs' with
    | nil => have := r.1; simp at this
    | cons y ys =>
      cases xs with
      | nil =>
        cases h1
        have : ys = [] := List.length_eq_zero_iff.1 (by have := r.1; simpa using this.symm)
        subst this
        exact r.head.1
      | cons x2 xs =>
        cases h1
        have hl : (y :: ys).length ≠ 1 := by rw [← r.1]; simp
        rw [dif_neg (by simpa using hl)]
        exact .tupleL (by simpa using r)

/- the modes of an unwinding frame, as a deferred function's caller -/
def MR (β : Ren) (p : Option Value) (u : FrameMode) : Prop :=
  match p with
  | none => u = .returning ∨ ∃ v', u = .panicking [{ v := v', recovered := true }]
  | some v => ∃ v', u = .panicking [{ v := v', recovered := false }] ∧ VR β v v'

theorem MR.mono {β β' : Ren} {p : Option Value} {u : FrameMode} (h : MR β p u) (k : Le β β') : MR β' p u := by
  cases p with
  | none => exact h
  | some v => obtain ⟨v', e, r⟩ := h; exact ⟨v', e, r.mono k⟩

def PostS (β : Ren) (X : XF) (base : Nat) (w0 : World) (c0 : Frame) (cs : List Frame) (e : Ex) (p : Option Value) (s' : St) : Exit → Act → List Frame → World → Prop :=
  fun e2 a2 cs2 w2 => ∃ β' u', Le β β' ∧ ExR β' e e2 ∧ SR β' X base s' a2 w2 ∧ Below base w0 w2 ∧ cs2 = { c0 with mode := u' } :: cs ∧ MR β' p u'

theorem PostS.trans {β β1 : Ren} {X : XF} {base : Nat} {w0 w1 : World} {c0 : Frame} {u1 : FrameMode} {cs : List Frame} {e : Ex} {p : Option Value} {s : St} (l : Le β β1) (b : Below base w0 w1)
    {e2 : Exit} {a2 : Act} {cs2 : List Frame} {w2 : World} (h : PostS β1 X base w1 { c0 with mode := u1 } cs e p s e2 a2 cs2 w2) : PostS β X base w0 c0 cs e p s e2 a2 cs2 w2 := by
  obtain ⟨β', u', l', he, hs, b', hc, hm⟩ := h
  exact ⟨β', u', l.trans l', he, hs, b.trans b', hc, hm⟩

theorem recoverD_none {β : Ren} {c : Frame} {cs : List Frame} (h : MR β none c.mode) : recoverD (c :: cs) = none := by
  rcases h with h | ⟨v', h⟩
  · simp [recoverD, h]
  · simp [recoverD, h]

theorem runOpsS_sound {cl : Cl} (hN : NameOk P) (hcl : SoundK P cl) (ops : Array Oper) (X : XF) (base : Nat) (w0 : World) (β0 : Ren) (c00 : Frame) (cs : List Frame) (e : Ex) (pE : Option Value) (sE : St) :
    ∀ (rest : List Oper) (k : Nat) (s : St) (p : Option Value) (β : Ren) (a : Act) (u : FrameMode) (w : World), ops.toList.drop k = rest → runOpsS P cl ops rest p s = some (e, pE, sE) → Le β0 β → SR β X base s a w →
      MR β p u → Below base w0 w → wpOpsS P ops (PostS β0 X base w0 c00 cs e pE sE) (List.range' k rest.length) a ({ c00 with mode := u } :: cs) w := by
  intro rest
  induction rest with
  | nil =>
    intro k s p β a u w _ h l hs hm b
    simp only [runOpsS, Option.some.injEq, Prod.mk.injEq] at h
    obtain ⟨rfl, rfl, rfl⟩ := h
    exact ⟨β, u, l, .normal, hs, b, rfl, hm⟩
  | cons o rest ih =>
    intro k s p β a u w hd h l hs hm b
    have hk : ops[k]? = some o := by
      have : (ops.toList.drop k)[0]? = some o := by rw [hd]; rfl
      simpa [List.getElem?_drop] using this
    have hd' : ops.toList.drop (k + 1) = rest := by rw [← List.drop_drop, hd]; rfl
    show wpOpsS P ops _ (k :: List.range' (k + 1) rest.length) a _ w
    simp only [wpOpsS, hk, ← wanted_rel hs.fr]
    simp only [runOpsS] at h
    split at h
    · rename_i hw
      rw [if_pos hw]
      split at h
      · -- recover
        rename_i hrec
        have hrun : (execOp a.eval o).run P w = .ok .recover w := by
          unfold isRec at hrec
          split at hrec
          · rename_i ho
            simp only [execOp, ho, resolve, invoke, builtin, Sem.run_bind, Sem.run_pure, Result.andThen_ok]
          · cases hrec
        rw [hrun]
        cases p with
        | none =>
          have hn : recoverD ({ c00 with mode := u } :: cs) = none := recoverD_none (c := { c00 with mode := u }) hm
          simp only [hn]
          exact ih (k + 1) _ none β _ u w hd' h l (hs.put .nili o.dst) hm b
        | some v =>
          obtain ⟨v', rfl, vr⟩ := hm
          have hn : recoverD ({ c00 with mode := .panicking [{ v := v', recovered := false }] } :: cs) = some (v', { c00 with mode := .panicking [{ v := v', recovered := true }] } :: cs) := by
            simp [recoverD]
          simp only [hn]
          exact ih (k + 1) _ none β _ _ w hd' h l (hs.put vr o.dst) (.inr ⟨v', rfl⟩) b
      · rename_i hrec
        cases hdo : doOp P cl o s with
        | none => rw [hdo] at h; cases h
        | some q =>
          obtain ⟨e1, s1⟩ := q
          rw [hdo] at h
          have hwp : o.wp P a w (fun a' w' => wpOpsS P ops (PostS β0 X base w0 c00 cs e pE sE) (List.range' (k + 1) rest.length) a' ({ c00 with mode := u } :: cs) w')
              (fun e2 a' w' => PostS β0 X base w0 c00 cs e pE sE e2 a' ({ c00 with mode := u } :: cs) w') := by
            cases e1 with
            | normal =>
              refine doOp_sound hN hcl hdo hs (fun _ β' a' w' l' hs' b' => ih (k + 1) s1 p β' a' u w' hd' h (l.trans l') hs' (hm.mono l') (b.trans b')) (fun v e => by cases e) (.inl rfl)
            | panic v =>
              simp only [Option.some.injEq, Prod.mk.injEq] at h
              obtain ⟨rfl, rfl, rfl⟩ := h
              refine doOp_sound hN hcl hdo hs (fun e => by cases e) (fun x e β' v' a' w' l' hs' b' vr => ?_) (.inr ⟨v, rfl⟩)
              cases e
              exact ⟨β', u, l.trans l', .panic vr, hs', b.trans b', rfl, hm.mono l'⟩
            | exit id =>
              unfold doOp at hdo
              obtain ⟨⟨r, H⟩, _, h1⟩ := bind_some hdo
              cases r with
              | call f args => obtain ⟨⟨q, H2⟩, _, h2⟩ := bind_some h1; cases q <;> cases h2
              | _ => cases h1
            | ret =>
              unfold doOp at hdo
              obtain ⟨⟨r, H⟩, _, h1⟩ := bind_some hdo
              cases r with
              | call f args => obtain ⟨⟨q, H2⟩, _, h2⟩ := bind_some h1; cases q <;> cases h2
              | _ => cases h1
          unfold Oper.wp at hwp
          generalize (execOp a.eval o).run P w = r at hwp
          split
          · exact hwp.elim
          · exact hwp
    · rename_i hw
      rw [if_neg hw]
      exact ih (k + 1) _ p β _ u w hd' h l (hs.put (.undef β) o.dst) hm b

theorem codeS_sound {cl : Cl} {ex : CodeRun} (hN : NameOk P) (hcl : SoundK P cl) (hx : SoundX P ex) (X : XF) (base : Nat) : ∀ (c : Code) (p : Option Value) (s : St) (e : Ex) (p' : Option Value) (s' : St),
    codeS P cl ex c p s = some (e, p', s') → ∀ (β : Ren) (a : Act) (w : World) (c0 : Frame) (cs : List Frame), SR β X base s a w → MR β p c0.mode →
    c.wpS P (PostS β X base w c0 cs e p' s') a (c0 :: cs) w := by
  have other : ∀ (c : Code) (p : Option Value) (s : St) (e : Ex) (p' : Option Value) (s' : St), (ex c s).map (fun (e, s) => (e, p, s)) = some (e, p', s') →
      ∀ (β : Ren) (a : Act) (w : World) (c0 : Frame) (cs : List Frame), SR β X base s a w → MR β p c0.mode → c.wpS P (PostS β X base w c0 cs e p' s') a (c0 :: cs) w := by
    intro c p s e p' s' h β a w c0 cs hs hm
    obtain ⟨⟨e1, s1⟩, h1, h2⟩ := map_some h
    simp only [Prod.mk.injEq] at h2
    obtain ⟨rfl, rfl, rfl⟩ := h2
    refine wpS_of_wp (wp_mono (hx c s e1 s1 h1 β X base a w hs).1 ?_)
    rintro e2 a2 w2 ⟨β', l, he, hs', b⟩
    exact ⟨β', c0.mode, l, he, hs', b, rfl, hm.mono l⟩
  intro c
  induction c with
  | seq x y ihx ihy =>
    intro p s e p' s' h β a w c0 cs hs hm
    simp only [codeS] at h
    refine wpS_seq ?_
    cases h1 : codeS P cl ex x p s with
    | none => rw [h1] at h; cases h
    | some q =>
      obtain ⟨e1, p1, s1⟩ := q
      rw [h1] at h
      have hwx := ihx p s e1 p1 s1 h1 β a w c0 cs hs hm
      intro b k hb hr
      obtain ⟨e2, a2, cs2, w2, hp, harr⟩ := hwx b k hb hr
      refine ⟨e2, a2, cs2, w2, ?_, harr⟩
      obtain ⟨β', u', l, he, hs', b', rfl, hm'⟩ := hp
      cases he with
      | normal =>
        have hwy := ihy p1 s1 e p' s' h β' a2 w2 { c0 with mode := u' } cs hs' hm'
        intro b3 k3 hb3 hr3
        obtain ⟨e3, a3, cs3, w3, hp3, harr3⟩ := hwy b3 k3 hb3 hr3
        exact ⟨e3, a3, cs3, w3, hp3.trans l b', harr3⟩
      | exit id => simp only [Option.some.injEq, Prod.mk.injEq] at h; obtain ⟨rfl, rfl, rfl⟩ := h; exact ⟨β', u', l, .exit id, hs', b', rfl, hm'⟩
      | ret => simp only [Option.some.injEq, Prod.mk.injEq] at h; obtain ⟨rfl, rfl, rfl⟩ := h; exact ⟨β', u', l, .ret, hs', b', rfl, hm'⟩
      | panic hv => simp only [Option.some.injEq, Prod.mk.injEq] at h; obtain ⟨rfl, rfl, rfl⟩ := h; exact ⟨β', u', l, .panic hv, hs', b', rfl, hm'⟩
  | cond c x y ihx ihy =>
    intro p s e p' s' h β a w c0 cs hs hm
    simp only [codeS] at h
    split at h
    · rename_i t hc
      refine wpS_cond (eval_bool hs.fr hc) ?_
      cases t with
      | true => exact ihx p s e p' s' (by simpa using h) β a w c0 cs hs hm
      | false => exact ihy p s e p' s' (by simpa using h) β a w c0 cs hs hm
    · cases h
  | region id ops draw =>
    intro p s e p' s' h β a w c0 cs hs hm
    simp only [codeS] at h
    split at h
    · exact other _ p s e p' s' h β a w c0 cs hs hm
    · rename_i hd
      have hdr : draw = false := by cases draw <;> simp_all
      subst hdr
      refine wpS_region ?_
      have := runOpsS_sound hN hcl ops X base w β c0 cs e p' s' ops.toList 0 s p β a c0.mode w (by simp) h (Le.refl β) hs hm (Below.refl _ _)
      simpa [List.range_eq_range'] using this
  | _ => intro p s e p' s' h; exact other _ p s e p' s' (by simpa only [codeS] using h)

end
end Go.Am
