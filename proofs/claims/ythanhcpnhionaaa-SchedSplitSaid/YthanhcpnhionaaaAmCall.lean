/- Deferred calls and calls of the abstract machine stand for the world's; so do all runs, given that drawing regions do. Conditions: those of each theorem. -/
import Derived.Test.YthanhcpnhionaaaAmCode
set_option linter.all false
set_option linter.unusedSimpArgs false
set_option linter.unusedVariables false
namespace Go.Am
open Go.RowKit

section
variable {P : Program}

theorem mode_eq (c : Frame) : ({ c with mode := c.mode } : Frame) = c := rfl

/- the modes in which a frame unwinds -/
def UR (β : Ren) (p : Option Value) (u : FrameMode) : Prop :=
  match p with
  | none => u = .returning
  | some v => ∃ v', u = .panicking [{ v := v', recovered := false }] ∧ VR β v v'

theorem UR.mr {β : Ren} {p : Option Value} {u : FrameMode} (h : UR β p u) : MR β p u := by
  cases p with
  | none => exact .inl h
  | some v => exact h

theorem MR.settle {β : Ren} {p : Option Value} {u : FrameMode} (h : MR β p u) : UR β p (settle u) := by
  cases p with
  | none =>
    rcases h with rfl | ⟨v', rfl⟩
    · rfl
    · rfl
  | some v =>
    obtain ⟨v', rfl, r⟩ := h
    exact ⟨v', rfl, r⟩

theorem unwind_sound {cl : Cl} {ex : CodeRun} (hN : NameOk P) (hcl : SoundK P cl) (hx : SoundX P ex) (fn : Func) (X : XF) (base : Nat) (r : CR) (HE : Heap) (β0 : Ren) (w0 : World) :
    ∀ (ds : List Deferred) (p : Option Value) (H : Heap) (s : St) (β : Ren) (a : Act) (ds' : List Deferred) (u : FrameMode) (w : World), unwindA P cl ex fn s ds p H = some (r, HE) → Le β0 β → FR β s a → DL β ds ds' →
      HR β H X base w → UR β p u → Below base w0 w → Leaves P fn a.tmps (CPost β0 X base w0 r HE) ds' u w := by
  intro ds
  induction ds with
  | nil =>
    intro p H s β a ds' u w h l hf hd hr hu b
    cases hd
    cases p with
    | none =>
      obtain rfl := hu
      simp only [unwindA] at h
      obtain ⟨v, hv, e⟩ := map_some h
      cases e
      obtain ⟨v', e1, rv⟩ := results_sound (s := { s with H := HE }) (a := a) hf hr hv
      exact ⟨v', e1, β, l, hr, b, v', rfl, rv⟩
    | some v =>
      obtain ⟨v', rfl, rv⟩ := hu
      simp only [unwindA, Option.some.injEq, Prod.mk.injEq] at h
      obtain ⟨rfl, rfl⟩ := h
      exact ⟨β, l, hr, b, v', rfl, rv⟩
  | cons d ds ih =>
    intro p H s β a ds' u w h l hf hd hr hu b
    cases hd with
    | cons hdr hdl =>
      rename_i d' ds2
      obtain ⟨g, c, c', ht, ht', rc, ra⟩ := hdr
      simp only [unwindA, ht] at h
      obtain ⟨gn, hgn, h1⟩ := bind_some h
      obtain ⟨body, hbody, h2⟩ := bind_some h1
      obtain ⟨⟨e, p', s'⟩, hcs, h3⟩ := bind_some h2
      have hinv : (invoke d'.target d'.args).run P w = .ok (.enter g (d'.args ++ c')) w := by
        have hnm := hN g gn hgn
        rw [ht']
        have hb2 : gn.body.isNone = false := by rw [hbody]; rfl
        simp only [invoke, callFunc, Sem.run_bind, run_program, Result.andThen_ok]
        rw [hgn]
        simp only [hnm, hb2, Bool.false_eq_true, if_false, Sem.run_pure]
      have hune : u ≠ .run := by
        cases p with
        | none => obtain rfl := hu; intro e; cases e
        | some v => obtain ⟨v', rfl, _⟩ := hu; intro e; cases e
      obtain ⟨t', as'⟩ := d'
      simp only at ht' hinv
      subst ht'
      refine leaves_cons hune hinv ?_
      refine callsD_of_wpS hgn hbody fun c0 cs hc0 => ?_
      have hargs : LR β (d.args ++ c).toList (as' ++ c').toList := by simp only [Array.toList_append]; exact ra.append rc
      have hSR : SR β X base (enterA gn (d.args ++ c) H) { tmps := as' ++ c' ++ Array.replicate (gn.ntmps - (as' ++ c').size) undef, defers := [] } w :=
        ⟨enter_FR hargs [], .nil, hr⟩
      have hw := codeS_sound hN hcl hx X base body p _ e p' s' hcs β _ w c0 cs hSR (by rw [hc0]; exact hu.mr)
      intro b3 k3 hb3 hr3
      obtain ⟨e2, a2, cs2, w2, hp, harr⟩ := hw b3 k3 hb3 hr3
      refine ⟨e2, a2, cs2, w2, ?_, harr⟩
      obtain ⟨β', u', l', he, hs', b', rfl, hm⟩ := hp
      have hend : e = .normal ∨ e = .ret := by
        cases e with
        | normal => exact .inl rfl
        | ret => exact .inr rfl
        | _ => cases h3
      have h4 : (if s'.d.isEmpty then (do let _ ← resultsA P gn s'; unwindA P cl ex fn s ds p' s'.H) else none) = some (r, HE) := by
        rcases hend with rfl | rfl <;> exact h3
      split at h4
      case isFalse => cases h4
      rename_i hde
      obtain ⟨v, hv, h5⟩ := bind_some h4
      have hdn : a2.defers = [] := by
        have hh := hs'.df
        have hz : s'.d = [] := by simpa using hde
        rw [hz] at hh
        generalize a2.defers = q at hh
        cases hh
        rfl
      obtain ⟨v', e1, _⟩ := results_sound hs'.fr hs'.hr hv
      have hfin : Leaves P fn a.tmps (CPost β0 X base w0 r HE) ds2 (settle u') w2 :=
        ih p' s'.H s β' a ds2 (settle u') w2 h5 (l.trans l') (hf.mono l') (hdl.mono l') hs'.hr hm.settle (b.trans b')
      rcases hend with rfl | rfl
      · cases he; exact ⟨hdn, u', rfl, v', e1, hfin⟩
      · cases he; exact ⟨hdn, u', rfl, v', e1, hfin⟩

theorem callA_sound {cl : Cl} {ex : CodeRun} (hN : NameOk P) (hcl : SoundK P cl) (hx : SoundX P ex) : SoundK P (callA P cl ex) := by
  intro f args H r H' h
  unfold callA at h
  obtain ⟨fn, hfn, h1⟩ := bind_some h
  obtain ⟨c, hc, h2⟩ := bind_some h1
  obtain ⟨⟨e, s⟩, hes, h3⟩ := bind_some h2
  refine ⟨⟨fn, hfn, by rw [hc]; rfl⟩, fun β X base w args' ha hr => ?_⟩
  refine calls_of_wp_defers hfn hc ?_
  have hSR : SR β X base (enterA fn args H) { tmps := args' ++ Array.replicate (fn.ntmps - args'.size) undef, defers := [] } w := ⟨enter_FR ha [], .nil, hr⟩
  refine wp_mono (hx c _ e s hes β X base _ w hSR).1 ?_
  rintro e2 a2 w2 ⟨β', l, he, hs, b⟩
  cases he with
  | normal => exact unwind_sound hN hcl hx fn X base r H' β w s.d none s.H s β' a2 a2.defers .returning w2 h3 l hs.fr hs.df hs.hr rfl b
  | ret => exact unwind_sound hN hcl hx fn X base r H' β w s.d none s.H s β' a2 a2.defers .returning w2 h3 l hs.fr hs.df hs.hr rfl b
  | exit id => cases h3
  | panic hv =>
    rename_i v v'
    simp only at h3
    split at h3
    · exact unwind_sound hN hcl hx fn X base r H' β w s.d (some v) s.H s β' a2 a2.defers _ w2 h3 l hs.fr hs.df hs.hr ⟨v', rfl, hv⟩ b
    · cases h3

theorem lvl_sound (hN : NameOk P) (hD : ∀ cl, SoundK P cl → SoundD P cl) : ∀ k, SoundX P (lvl P k).1 ∧ SoundK P (lvl P k).2
  | 0 => ⟨(fun c s e s' h => by cases h), (fun f args H r H' h => by cases h)⟩
  | k + 1 => by
    obtain ⟨h1, h2⟩ := lvl_sound hN hD k
    exact ⟨stepC_sound hN h2 (hD _ h2) h1, callA_sound hN h2 h1⟩

end
end Go.Am
