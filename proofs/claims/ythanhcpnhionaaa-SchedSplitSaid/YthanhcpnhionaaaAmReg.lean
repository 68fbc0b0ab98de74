/- Regions in the text's order stand for the world's. Conditions: those of each theorem. -/
import Derived.Test.YthanhcpnhionaaaAmOpS
set_option linter.all false
set_option linter.unusedSimpArgs false
set_option linter.unusedVariables false
namespace Go.Am
open Go.RowKit

section
variable {P : Program}

/- lists of deferred calls -/
inductive DL (β : Ren) : List Deferred → List Deferred → Prop
  | nil : DL β [] []
  | cons {d d' : Deferred} {l l' : List Deferred} (h : DR β d d') (k : DL β l l') : DL β (d :: l) (d' :: l')

theorem DL.mono {β β' : Ren} {l l' : List Deferred} (h : DL β l l') (k : Le β β') : DL β' l l' := by
  induction h with
  | nil => exact .nil
  | cons h _ ih => exact .cons (h.mono k) ih

/- an activation, the heap -/
structure SR (β : Ren) (X : XF) (base : Nat) (s : St) (a : Act) (w : World) : Prop where
  fr : FR β s a
  df : DL β s.d a.defers
  hr : HR β s.H X base w

inductive ExR (β : Ren) : Ex → Exit → Prop
  | normal : ExR β .normal .normal
  | exit (id : Nat) : ExR β (.exit id) (.exit id)
  | ret : ExR β .ret .ret
  | panic {v v' : Value} (h : VR β v v') : ExR β (.panic v) (.panic [{ v := v', recovered := false }])

def Post (β : Ren) (X : XF) (base : Nat) (w0 : World) (e : Ex) (s' : St) : Exit → Act → World → Prop :=
  fun e2 a2 w2 => ∃ β', Le β β' ∧ ExR β' e e2 ∧ SR β' X base s' a2 w2 ∧ Below base w0 w2

/- what a call comes to -/
def CPost (β : Ren) (X : XF) (base : Nat) (w0 : World) (r : CR) (H' : Heap) : Ending → World → Prop :=
  fun e w' => ∃ β', Le β β' ∧ HR β' H' X base w' ∧ Below base w0 w' ∧
    match r with
    | .ret v => ∃ v', e = .returned v' ∧ VR β' v v'
    | .pan v => ∃ v', e = .panicked [{ v := v', recovered := false }] ∧ VR β' v v'

/- no function of that name, which the model steps over -/
def NameOk (P : Program) : Prop := ∀ (f : FuncId) (fn : Func), P.funcs[f]? = some fn → (fn.name == "runtime.NumGoroutine") = false

/- calls are sound -/
def SoundK (P : Program) (cl : Cl) : Prop := ∀ f args H r H', cl f args H = some (r, H') → (∃ fn, P.funcs[f]? = some fn ∧ fn.body.isSome = true) ∧
  ∀ β X base w (args' : Array Value), LR β args.toList args'.toList → HR β H X base w → Calls P f args' w (CPost β X base w r H')

theorem FR.put {β : Ren} {s : St} {a : Act} (h : FR β s a) {v v' : Value} (hv : VR β v v') (dst : Option Tmp) : FR β (s.put dst v) (a.put dst v') := by
  cases dst with
  | none => exact h
  | some d =>
    simp only [St.put, Act.put]
    by_cases hd : d < s.n
    · rw [if_pos hd]
      refine ⟨by simp [h.1], fun t ht => ?_, fun t ht => ?_⟩
      · by_cases e : t = d
        · refine ⟨v', ?_, by simpa [St.slot, Tr.get_put, e] using hv⟩
          subst e
          have hd' : t < a.tmps.size := by rw [h.1]; exact hd
          simp [hd']
        · obtain ⟨u', e1, r⟩ := h.2.1 t ht
          refine ⟨u', ?_, by simpa [St.slot, Tr.get_put, e] using r⟩
          rw [Array.getElem?_setIfInBounds_ne (Ne.symm e)]; exact e1
      · have : t ≠ d := by intro e; subst e; exact absurd hd (Nat.not_lt.2 ht)
        simp only [Tr.get_put, if_neg this]
        exact h.2.2 t ht
    · rw [if_neg hd]
      have : a.tmps.setIfInBounds d v' = a.tmps := Array.setIfInBounds_eq_of_size_le (by rw [h.1]; exact Nat.le_of_not_lt hd)
      rw [this]
      exact h

@[simp] theorem put_H (s : St) (dst : Option Tmp) (v : Value) : (s.put dst v).H = s.H := by
  cases dst with
  | none => rfl
  | some d => simp only [St.put]; split <;> rfl
@[simp] theorem put_d (s : St) (dst : Option Tmp) (v : Value) : (s.put dst v).d = s.d := by
  cases dst with
  | none => rfl
  | some d => simp only [St.put]; split <;> rfl
@[simp] theorem put_n (s : St) (dst : Option Tmp) (v : Value) : (s.put dst v).n = s.n := by
  cases dst with
  | none => rfl
  | some d => simp only [St.put]; split <;> rfl
@[simp] theorem act_put_defers (a : Act) (dst : Option Tmp) (v : Value) : (a.put dst v).defers = a.defers := by cases dst <;> rfl

theorem SR.put {β : Ren} {X : XF} {base : Nat} {s : St} {a : Act} {w : World} (h : SR β X base s a w) {v v' : Value} (hv : VR β v v') (dst : Option Tmp) :
    SR β X base (s.put dst v) (a.put dst v') w :=
  ⟨h.fr.put hv dst, by simpa using h.df, by simpa using h.hr⟩

/- another heap, other deferred calls: the slots stay -/
theorem FR.with {β : Ren} {s : St} {a : Act} (h : FR β s a) (H : Heap) (d : List Deferred) (ds : List Deferred) : FR β { s with H := H, d := d } { a with defers := ds } := ⟨h.1, h.2.1, h.2.2⟩

theorem yielded_rel {β : Ren} {s : St} {a : Act} (h : FR β s a) (ops : Array Oper) (j : Nat) : yieldedA ops s j = yielded ops a.tmps j := by
  unfold yieldedA yielded
  cases hd : (ops[j]?).bind (·.dst) with
  | none => rfl
  | some t =>
    simp only [Option.bind_some]
    by_cases ht : t < s.n
    · obtain ⟨v', e, r⟩ := h.2.1 t ht
      have e' : a.tmps[t]? = some v' := e
      rw [e']
      cases hg : s.f.get t with
      | none =>
        have : s.slot t = undef := by simp [St.slot, hg]
        rw [this] at r
        cases r
        rfl
      | some v =>
        have : s.slot t = v := by simp [St.slot, hg]
        rw [this] at r
        cases r <;> rfl
    · have e1 : s.f.get t = none := h.2.2 t (Nat.le_of_not_lt ht)
      have e2 : a.tmps[t]? = none := Array.getElem?_eq_none (by rw [h.1]; exact Nat.le_of_not_lt ht)
      rw [e1, e2]

theorem wanted_rel {β : Ren} {s : St} {a : Act} (h : FR β s a) (ops : Array Oper) (o : Oper) : wantedA o ops s = Region.wanted o (yielded ops a.tmps) := by
  unfold wantedA Region.wanted
  cases o.guard with
  | none => rfl
  | some g => obtain ⟨j, want⟩ := g; simp only [yielded_rel h]

theorem doOp_sound {cl : Cl} (hN : NameOk P) (hcl : SoundK P cl) {o : Oper} {s s' : St} {e : Ex} (h : doOp P cl o s = some (e, s'))
    {β : Ren} {X : XF} {base : Nat} {a : Act} {w : World} (hs : SR β X base s a w) {K : Act → World → Prop} {Q : Exit → Act → World → Prop}
    (hK : e = .normal → ∀ β' a' w', Le β β' → SR β' X base s' a' w' → Below base w w' → K a' w')
    (hQ : ∀ v, e = .panic v → ∀ β' v' a' w', Le β β' → SR β' X base s' a' w' → Below base w w' → VR β' v v' → Q (.panic [{ v := v', recovered := false }]) a' w')
    (he : e = .normal ∨ ∃ v, e = .panic v) : o.wp P a w K Q := by
  unfold doOp at h
  obtain ⟨⟨r, H⟩, hr, h1⟩ := bind_some h
  have hso := opA_sound hs.fr.ev hs.hr hr
  unfold Oper.wp
  cases r with
  | val v =>
    cases h1
    obtain ⟨β', v', w', hrun, l, vr, hr', b⟩ := hso
    have hK' := hK rfl β' (a.put o.dst v') w' l (SR.put ⟨(hs.fr.mono l).with H s.d a.defers, hs.df.mono l, hr'⟩ vr o.dst) b
    rcases hrun with hrun | ⟨hrun, rfl⟩
    · rw [hrun]; exact hK'
    · rw [hrun]; exact hK'
  | dfr d =>
    cases h1
    obtain ⟨rfl, d', hrun, dr⟩ := hso
    rw [hrun]
    exact hK rfl β _ w (Le.refl β) (SR.put (a := { a with defers := d' :: a.defers }) ⟨hs.fr.with s.H (d :: s.d) (d' :: a.defers), .cons dr hs.df, hs.hr⟩ (.undef β) o.dst) (Below.refl _ _)
  | pan v =>
    cases h1
    obtain ⟨rfl, v', hrun, vr⟩ := hso
    rw [hrun]
    exact hQ v rfl β v' a w (Le.refl β) ⟨hs.fr, hs.df, hs.hr⟩ (Below.refl _ _) vr
  | call f args =>
    obtain ⟨rfl, args', la, hrun⟩ := hso
    obtain ⟨⟨q, H2⟩, hq, h2⟩ := bind_some h1
    obtain ⟨⟨fn, hfn, hbd⟩, hcall⟩ := hcl f args s.H q H2 hq
    rw [hrun fn hfn hbd (hN f fn hfn)]
    show Calls P f args' w _
    refine (hcall β X base w args' la hs.hr).mono ?_
    rintro e2 w2 ⟨β', l, hr2, b, hq2⟩
    cases q with
    | ret v =>
      cases h2
      obtain ⟨v', rfl, vr⟩ := hq2
      exact hK rfl β' _ w2 l (SR.put ⟨(hs.fr.mono l).with H2 s.d a.defers, hs.df.mono l, hr2⟩ vr o.dst) b
    | pan v =>
      cases h2
      obtain ⟨v', rfl, vr⟩ := hq2
      exact hQ v rfl β' v' a w2 l ⟨(hs.fr.mono l).with H2 s.d a.defers, hs.df.mono l, hr2⟩ b vr

/- a region in the text's order -/
theorem runOps_sound {cl : Cl} (hN : NameOk P) (hcl : SoundK P cl) (ops : Array Oper) (X : XF) (base : Nat) (w0 : World) (β0 : Ren) (e : Ex) (sE : St) :
    ∀ (rest : List Oper) (k : Nat) (s : St) (β : Ren) (a : Act) (w : World), ops.toList.drop k = rest → runOps P cl ops rest s = some (e, sE) → Le β0 β → SR β X base s a w → Below base w0 w →
      wpOps P ops (Post β0 X base w0 e sE) (List.range' k rest.length) a w := by
  intro rest
  induction rest with
  | nil =>
    intro k s β a w _ h l hs b
    simp only [runOps, Option.some.injEq, Prod.mk.injEq] at h
    obtain ⟨rfl, rfl⟩ := h
    exact ⟨β, l, .normal, hs, b⟩
  | cons o rest ih =>
    intro k s β a w hd h l hs b
    have hk : ops[k]? = some o := by
      have : (ops.toList.drop k)[0]? = some o := by rw [hd]; rfl
      simpa [List.getElem?_drop] using this
    have hd' : ops.toList.drop (k + 1) = rest := by rw [← List.drop_drop, hd]; rfl
    show wpOps P ops _ (k :: List.range' (k + 1) rest.length) a w
    simp only [wpOps, hk, ← wanted_rel hs.fr]
    simp only [runOps] at h
    split at h
    · rename_i hw
      rw [if_pos hw]
      left
      cases hdo : doOp P cl o s with
      | none => rw [hdo] at h; cases h
      | some q =>
        obtain ⟨e1, s1⟩ := q
        rw [hdo] at h
        cases e1 with
        | normal =>
          refine doOp_sound hN hcl hdo hs (fun _ β' a' w' l' hs' b' => ih (k + 1) s1 β' a' w' hd' h (l.trans l') hs' (b.trans b')) (fun v e => by cases e) (.inl rfl)
        | panic v =>
          simp only [Option.some.injEq, Prod.mk.injEq] at h
          obtain ⟨rfl, rfl⟩ := h
          refine doOp_sound hN hcl hdo hs (fun e => by cases e) (fun u e β' v' a' w' l' hs' b' vr => ?_) (.inr ⟨v, rfl⟩)
          cases e
          exact ⟨β', l.trans l', .panic vr, hs', b.trans b'⟩
        | exit id =>
          unfold doOp at hdo
          obtain ⟨⟨r, H⟩, _, h1⟩ := bind_some hdo
          cases r with
          | call f args => obtain ⟨⟨q, H2⟩, _, h2⟩ := bind_some h1; cases q <;> cases h2
          | _ => cases h1
        | ret =>
          unfold doOp at hdo
          obtain ⟨⟨r, H⟩, _, h1⟩ := bind_some hdo
          cases r with
          | call f args => obtain ⟨⟨q, H2⟩, _, h2⟩ := bind_some h1; cases q <;> cases h2
          | _ => cases h1
    · rename_i hw
      rw [if_neg hw]
      exact ih (k + 1) _ β _ w hd' h l (hs.put (.undef β) o.dst) b

end
end Go.Am
