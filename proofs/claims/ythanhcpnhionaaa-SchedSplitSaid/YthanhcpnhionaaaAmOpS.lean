/- Every operation of the abstract machine stands for the world's. Conditions: those of each theorem. -/
import Derived.Test.YthanhcpnhionaaaAmOp
set_option linter.all false
set_option linter.unusedSimpArgs false
set_option linter.unusedVariables false
namespace Go.Am
open Go.RowKit

section
variable {P : Program} {β : Ren} {H : Heap} {X : XF} {base : Nat} {w : World}

/- what an operation's outcome stands for -/
def RR (P : Program) (o : Oper) (a : Act) (β : Ren) (H H' : Heap) (X : XF) (base : Nat) (w : World) : R → Prop
  | .val v => ∃ β' v' w', ((execOp a.eval o).run P w = .ok (.value v') w' ∨ ((execOp a.eval o).run P w = .ok .skip w' ∧ v' = undef)) ∧ Le β β' ∧ VR β' v v' ∧ HR β' H' X base w' ∧ Below base w w'
  | .call f args => H' = H ∧ ∃ args' : Array Value, LR β args.toList args'.toList ∧
      ∀ fn, P.funcs[f]? = some fn → fn.body.isSome = true → (fn.name == "runtime.NumGoroutine") = false → (execOp a.eval o).run P w = .ok (.enter f args') w
  | .dfr d => H' = H ∧ ∃ d', (execOp a.eval o).run P w = .ok (.defer d') w ∧ DR β d d'
  | .pan v => H' = H ∧ ∃ v', (execOp a.eval o).run P w = .halt (.panic v') w ∧ VR β v v'

theorem RR.same {o : Oper} {a : Act} {v v' : Value} (hr : HR β H X base w) (h : (execOp a.eval o).run P w = .ok (.value v') w) (hv : VR β v v') : RR P o a β H H X base w (.val v) :=
  ⟨β, v', w, .inl h, Le.refl β, hv, hr, Below.refl _ _⟩

theorem LR.one {x : Value} {A : Array Value} (h : LR β [x] A.toList) : ∃ x', A = #[x'] ∧ VR β x x' := by
  obtain ⟨l⟩ := A
  cases l with
  | nil => have := h.1; simp at this
  | cons y l =>
    cases l with
    | nil => exact ⟨y, rfl, h.head.1⟩
    | cons z l => have := h.1; simp at this

theorem LR.two {x y : Value} {A : Array Value} (h : LR β [x, y] A.toList) : ∃ x' y', A = #[x', y'] ∧ VR β x x' ∧ VR β y y' := by
  obtain ⟨l⟩ := A
  cases l with
  | nil => have := h.1; simp at this
  | cons z l =>
    cases l with
    | nil => have := h.1; simp at this
    | cons u l =>
      cases l with
      | nil => exact ⟨z, u, rfl, h.head.1, h.head.2.head.1⟩
      | cons q l => have := h.1; simp at this

theorem copyA_sound (hr : HR β H X base w) {ts : Array TypeId} {dT ty : TypeId} {d x d' x' v : Value} {H' : Heap} (h0 : ts[0]? = some dT)
    (h : copyA P H dT d x = some (v, H')) (hd : VR β d d') (hx : VR β x x') :
    ∃ v' w', (Builtin.copy_ ts ty #[d', x']).run P w = .ok v' w' ∧ VR β v v' ∧ HR β H' X base w' ∧ Below base w w' := by
  unfold copyA at h
  obtain ⟨t, ht, h1⟩ := bind_some h
  have e0 : (#[d', x'] : Array Value)[0]? = some d' := rfl
  have e1 : (#[d', x'] : Array Value)[1]? = some x' := rfl
  cases t with
  | slice elem =>
    cases d with
    | slice b len cap =>
      obtain ⟨size, hs, h2⟩ := bind_some h1
      obtain ⟨m, hm, h3⟩ := bind_some h2
      dsimp only at h3
      split at h3
      · cases h3
      rename_i hsz
      obtain ⟨news, hn, h4⟩ := bind_some h3
      have hlen := run_lengthA (P := P) hm hx w
      have hnb : (∀ a l c, x = .slice a l c → Nat.min m len ≤ l) ∧ (∀ s, x = .string s → Nat.min m len ≤ s.size) := by
        constructor
        · intro a l c e; subst e; simp [lengthA] at hm; have hkm : Nat.min m len ≤ m := Nat.min_le_left m len; omega
        · intro s e; subst e; simp [lengthA] at hm; have hkm : Nat.min m len ≤ m := Nat.min_le_left m len; omega
      obtain ⟨news', en, rn, ln⟩ := run_firstA (P := P) hr hn hx hnb.1 hnb.2
      have hd2 : ∃ b' c', d' = .slice b' len c' ∧ (b = none → b' = none) ∧ (∀ a, b = some a → ∃ a', b' = some a' ∧ (Nat.min m len ≠ 0 → cap ≠ 0 → AR β a a')) := by
        have hml : Nat.min m len ≤ len := Nat.min_le_right _ _
        cases hd with
        | nils l c hcc => exact ⟨none, _, rfl, fun _ => rfl, fun a e => by cases e⟩
        | sl l c hcc hl ha => exact ⟨_, _, rfl, fun e => (by cases e), fun a e => by cases e; exact ⟨_, rfl, fun _ k => ha.resolve_left k⟩⟩
        | op l c hl hs0 hu ha =>
          exact ⟨_, _, rfl, fun e => (by cases e), fun a e => by cases e; exact ⟨_, rfl, fun k _ => ⟨hs0, hu, fun T hT => (ha T hT).2.2.resolve_left (by omega)⟩⟩⟩
      obtain ⟨b', c', rfl, hbn, hbs⟩ := hd2
      have hrun : (Builtin.copy_ ts ty #[.slice b' len c', x']).run P w = match (generalizing := false) b' with
          | some a => ((storeCells a news').run P w).andThen fun _ w => .ok (goInt (Nat.min m len)) w
          | none => .ok (goInt (Nat.min m len)) w := by
        unfold Builtin.copy_
        rw [h0, e0, e1]
        simp only [Sem.run_bind, run_underlying ht, Result.andThen_ok, hlen, run_sizeOf hs, en]
        cases b' <;> simp only [Sem.run_bind, Sem.run_pure]
      cases b with
      | none =>
        obtain rfl := hbn rfl
        cases h4
        exact ⟨_, w, hrun, .int _ _, hr, Below.refl _ _⟩
      | some a =>
        obtain ⟨a', rfl, ha⟩ := hbs a rfl
        simp only at h4
        split at h4
        · rename_i hz
          cases h4
          have hnil : news' = [] := List.length_eq_zero_iff.1 (by rw [← rn.1, ln, hz]; simp)
          refine ⟨_, w, ?_, .int _ _, hr, Below.refl _ _⟩
          rw [hrun, hnil]
          simp [storeCells, goInt]
        · rename_i hz
          split at h4
          · cases h4
          rename_i hc
          obtain ⟨H2, hst, e2⟩ := map_some h4
          cases e2
          obtain ⟨w', e3, r3, b3, _⟩ := run_stores (P := P) hr hst (ha hz hc) rn
          refine ⟨_, w', ?_, .int _ _, r3, b3⟩
          rw [hrun]
          simp only [e3, Result.andThen_ok, goInt]
    | _ => cases h1
  | _ => cases d <;> cases h1

theorem builtin_sound {o : Oper} {a : Act} {ev : Operand → Option Value} (hE : ∀ x v, ev x = some v → VR β v (a.eval x)) (hr : HR β H X base w)
    {c : Call} {b : Builtin} {vs : List Value} {v : Value} {H' : Heap} (ho : o.op = .call c) (hb : c.callee = .builtin b) (hvs : c.args.toList.mapM ev = some vs)
    (h : builtinA P b c.argTypes vs H = some (v, H')) : RR P o a β H H' X base w (.val v) := by
  have hargs := mapM_rel hE c.args.toList vs hvs
  obtain ⟨cs, hexec⟩ : ∃ cs, (execOp a.eval o).run P w = (builtin b c.argTypes o.type cs (c.args.map a.eval)).run P w := by
    refine ⟨c.args.map fun | .const _ => true | _ => false, ?_⟩
    simp only [execOp, ho, resolve, hb, invoke, Sem.run_bind, Sem.run_pure, Result.andThen_ok]
    rfl
  have hal : (c.args.map a.eval).toList = c.args.toList.map a.eval := by simp
  generalize c.args.map a.eval = A at hexec hal
  rw [← hal] at hargs
  unfold builtinA at h
  split at h
  · -- len
    rename_i x
    obtain ⟨t, ht, h1⟩ := bind_some h
    obtain ⟨u, hu, e⟩ := map_some h1
    cases e
    obtain ⟨x', rfl, rx⟩ := hargs.one
    have key : (Builtin.len_ c.argTypes o.type #[x']).run P w = .ok v w ∧ VR β v v := by
      unfold lenA at hu
      obtain ⟨d, hd, h2⟩ := bind_some hu
      have e0 : (#[x'] : Array Value)[0]? = some x' := rfl
      split at h2
      · cases rx; cases h2; exact ⟨by simp [Builtin.len_, ht, run_underlying hd], .int _ _⟩
      · cases rx <;> (cases h2; exact ⟨by simp [Builtin.len_, ht, run_underlying hd], .int _ _⟩)
      · cases h2; exact ⟨by simp [Builtin.len_, ht, run_underlying hd], .int _ _⟩
      · cases h2
    refine RR.same hr ?_ key.2
    rw [hexec]
    simp only [builtin, Sem.run_bind, key.1, Result.andThen_ok, Sem.run_pure]
  · -- append
    rename_i s x
    obtain ⟨t0, ht0, h1⟩ := bind_some h
    obtain ⟨t1, ht1, h2⟩ := bind_some h1
    obtain ⟨s', x', rfl, rs, rx⟩ := hargs.two
    obtain ⟨β', v', w', e, l, r, h3, b⟩ := appendA_sound (ty := o.type) hr ht0 ht1 h2 rs rx
    refine ⟨β', v', w', .inl ?_, l, r, h3, b⟩
    rw [hexec]
    simp only [builtin, Sem.run_bind, e, Result.andThen_ok, Sem.run_pure]
  · -- copy
    rename_i d x
    obtain ⟨t0, ht0, h1⟩ := bind_some h
    obtain ⟨d', x', rfl, rd, rx⟩ := hargs.two
    obtain ⟨v', w', e, r, h3, b⟩ := copyA_sound (ty := o.type) hr ht0 h1 rd rx
    refine ⟨β, v', w', .inl ?_, Le.refl β, r, h3, b⟩
    rw [hexec]
    simp only [builtin, Sem.run_bind, e, Result.andThen_ok, Sem.run_pure]
  · -- min
    rename_i x y
    obtain ⟨u, hu, e⟩ := map_some h
    cases e
    obtain ⟨x', y', rfl, rx, ry⟩ := hargs.two
    unfold min2A at hu
    split at hu
    · cases rx; cases ry; cases hu
      refine RR.same hr ?_ (.int _ _)
      rw [hexec]
      simp only [builtin, Sem.run_bind, run_min_int2, Result.andThen_ok, Sem.run_pure]
    · cases hu
  · rename_i x y
    obtain ⟨u, hu, e⟩ := map_some h
    cases e
    obtain ⟨x', y', rfl, rx, ry⟩ := hargs.two
    unfold max2A at hu
    split at hu
    · cases rx; cases ry; cases hu
      refine RR.same hr ?_ (.int _ _)
      rw [hexec]
      simp only [builtin, Sem.run_bind, run_max_int2, Result.andThen_ok, Sem.run_pure]
    · cases hu
  · cases h

theorem opA_sound {o : Oper} {a : Act} {ev : Operand → Option Value} (hE : ∀ x v, ev x = some v → VR β v (a.eval x)) (hr : HR β H X base w)
    {r : R} {H' : Heap} (h : opA P o ev H = some (r, H')) : RR P o a β H H' X base w r := by
  unfold opA at h
  split at h
  · -- a new block
    obtain ⟨q, hq, h1⟩ := bind_some h
    cases h1
    have hXn : X H.next = none := hr.xnext (Nat.le_refl _)
    have hgA : ∀ j, (H.alloc q.2).get j = if j = H.next then some q.2 else H.get j := fun j => Heap.get_alloc hr.next
    obtain ⟨β', v', w', e, l, vr, h2, b⟩ := allocA_sound hE hr hq H.next (H.alloc q.2) X ⟨hr.next, hr.fresh _ (Nat.le_refl _), by simp, by simp, getX_new hgA, hr.dnew (by simp) hgA hXn,
      fun j hj => ⟨(by intro e; subst e; rw [hXn] at hj; cases hj), hj⟩⟩
    exact ⟨β', v', w', .inl e, l, vr, h2, b⟩
  · cases ho : o.op with
    | move x =>
      rw [ho] at h
      obtain ⟨v, hv, h1⟩ := bind_some h
      cases h1
      exact RR.same hr (by simp [execOp, ho]) (hE x v hv)
    | assign x =>
      rw [ho] at h
      obtain ⟨v, hv, h1⟩ := bind_some h
      cases h1
      exact RR.same hr (by simp [execOp, ho]) (hE x v hv)
    | pick c x y =>
      rw [ho] at h
      obtain ⟨vc, hvc, h1⟩ := bind_some h
      have rc := hE c vc hvc
      cases vc with
      | bool b =>
        generalize hce : a.eval c = c' at rc
        cases rc
        cases b with
        | true =>
          have h2 : (do some (R.val (← ev x), H)) = some (r, H') := h1
          obtain ⟨v, hv, h3⟩ := bind_some h2
          cases h3
          exact RR.same hr (by simp [execOp, ho, hce, asBool]) (hE x v hv)
        | false =>
          have h2 : (do some (R.val (← ev y), H)) = some (r, H') := h1
          obtain ⟨v, hv, h3⟩ := bind_some h2
          cases h3
          exact RR.same hr (by simp [execOp, ho, hce, asBool]) (hE y v hv)
      | _ => cases h1
    | build t parts =>
      rw [ho] at h
      obtain ⟨ps, hps, h1⟩ := bind_some h
      obtain ⟨v, hv, h2⟩ := bind_some h1
      cases h2
      obtain ⟨v', e, r'⟩ := run_buildA hv (parts_rel hE parts.toList ps hps) w
      refine RR.same hr ?_ r'
      have e2 : (parts.map fun (p : Nat × Operand) => (p.1, a.eval p.2)) = (parts.toList.map fun p => (p.1, a.eval p.2)).toArray := by apply Array.ext'; simp
      have e3 : (Instr.build t (parts.map fun (i, x) => (i, a.eval x))).run P w = .ok v' w := by rw [← e, ← e2]
      simp [execOp, ho, e3]
    | load t x =>
      rw [ho] at h
      obtain ⟨v, hv, h1⟩ := bind_some h
      obtain ⟨u, hu, h2⟩ := bind_some h1
      cases h2
      obtain ⟨u', e, r'⟩ := run_loadAt hr hu (hE x v hv)
      exact RR.same hr (by simp only [execOp, ho, Sem.run_bind, e, Result.andThen_ok, Sem.run_pure]) r'
    | store t x y =>
      rw [ho] at h
      obtain ⟨vx, hvx, h1⟩ := bind_some h
      obtain ⟨vy, hvy, h2⟩ := bind_some h1
      obtain ⟨H2, hst, h3⟩ := bind_some h2
      cases h3
      obtain ⟨w', e, r', b, _⟩ := run_storeAt hr hst (hE x vx hvx) (hE y vy hvy)
      exact ⟨β, undef, w', .inr ⟨by simp only [execOp, ho, Sem.run_bind, e, Result.andThen_ok, Sem.run_pure], rfl⟩, Le.refl β, .undef β, r', b⟩
    | nilCheck x =>
      rw [ho] at h
      obtain ⟨v, hv, h1⟩ := bind_some h
      have rv := hE x v hv
      generalize hxe : a.eval x = x' at rv
      cases rv with
      | ptr ha => cases h1; exact RR.same hr (by simp [execOp, ho, hxe]) (.ptr ha)
      | func f hx hy kx ky =>
        cases f with
        | func f => cases h1; exact RR.same hr (by simp [execOp, ho, hxe]) (.func _ hx hy kx ky)
        | _ => cases h1
      | iface t hv' => cases h1; exact RR.same hr (by simp [execOp, ho, hxe]) (.iface t hv')
      | _ => cases h1
    | binOp op t x y u =>
      rw [ho] at h
      obtain ⟨vx, hvx, h1⟩ := bind_some h
      obtain ⟨vy, hvy, h2⟩ := bind_some h1
      split at h2
      case isFalse => cases h2
      rename_i hg
      obtain ⟨q, hq, h3⟩ := bind_some h2
      cases h3
      obtain ⟨e, rr⟩ := run_binA (x := x) (y := y) hq hg (hE x vx hvx) (hE y vy hvy) w
      exact RR.same hr (by simp only [execOp, ho]; rw [Sem.run_bind, e]; rfl) rr
    | unOp op t x =>
      rw [ho] at h
      obtain ⟨v, hv, h1⟩ := bind_some h
      obtain ⟨u, hu, h2⟩ := bind_some h1
      cases h2
      have rv := hE x v hv
      generalize hxe : a.eval x = x' at rv
      unfold unA at hu
      split at hu
      · cases rv; cases hu; exact RR.same hr (by simp [execOp, ho, hxe, Op.unary]) (.bool _)
      · cases rv; cases hu; exact RR.same hr (by simp [execOp, ho, hxe, Op.unary, Op.intArith]) (.int _ _)
      · cases hu
    | convert s t x =>
      rw [ho] at h
      obtain ⟨v, hv, h1⟩ := bind_some h
      obtain ⟨u, hu, h2⟩ := bind_some h1
      cases h2
      have rv := hE x v hv
      generalize hxe : a.eval x = x' at rv
      unfold convertA at hu
      obtain ⟨d1, hd1, h3⟩ := bind_some hu
      obtain ⟨d2, hd2, h4⟩ := bind_some h3
      split at h4
      · rename_i k2 k3 n
        cases rv
        cases h4
        refine RR.same hr ?_ (.int _ _)
        have e1 : (convert s t (.int k3 n)).run P w = .ok (.int k2 (k2.wrap n)) w := by
          simp [convert, run_underlying hd1, run_underlying hd2, Conv.intToInt]
        simp only [execOp, ho, hxe, Sem.run_bind, e1, Result.andThen_ok, Sem.run_pure]
      · cases h4
    | makeInterface t x =>
      rw [ho] at h
      obtain ⟨v, hv, h1⟩ := bind_some h
      obtain ⟨u, hu, h2⟩ := bind_some h1
      cases h2
      unfold makeInterfaceA at hu
      obtain ⟨d, hd, h3⟩ := bind_some hu
      have hd' : (Instr.makeInterface t (a.eval x)).run P w = .ok (.iface t (a.eval x)) w ∧ u = .iface t v := by
        cases d <;> first
          | (cases h3; done)
          | (cases h3; exact ⟨by simp [Instr.makeInterface, run_underlying hd], rfl⟩)
      obtain ⟨e, rfl⟩ := hd'
      exact RR.same hr (by simp [execOp, ho, e]) (.iface t (hE x v hv))
    | makeFunc fn first captured =>
      rw [ho] at h
      obtain ⟨v1, hv1, h1⟩ := bind_some h
      obtain ⟨v2, hv2, h2⟩ := bind_some h1
      cases h2
      have r1 := mapM_rel hE first.toList v1 hv1
      have r2 := mapM_rel hE captured.toList v2 hv2
      refine RR.same hr (v' := .func fn (first.map a.eval) (captured.map a.eval)) (by simp [execOp, ho, Instr.makeFunc]) (.func fn ?_ ?_ ?_ ?_)
      · have := r1.1; simp at this; simpa using this
      · have := r2.1; simp at this; simpa using this
      · intro i u u' hu hu'; exact r1.2 i u u' (by simpa using hu) (by simpa using hu')
      · intro i u u' hu hu'; exact r2.2 i u u' (by simpa using hu) (by simpa using hu')
    | slice t x lo hi mx =>
      rw [ho] at h
      obtain ⟨v, hv, h1⟩ := bind_some h
      obtain ⟨vl, hvl, h2⟩ := bind_some h1
      obtain ⟨vh, hvh, h3⟩ := bind_some h2
      obtain ⟨vm, hvm, h4⟩ := bind_some h3
      obtain ⟨u, hu, h5⟩ := bind_some h4
      cases h5
      obtain ⟨u', e, r'⟩ := run_sliceA hr hu (hE x v hv) (opt_rel hE hvl) (opt_rel hE hvh) (opt_rel hE hvm)
      exact RR.same hr (by simp only [execOp, ho, Sem.run_bind, e, Result.andThen_ok, Sem.run_pure]) r'
    | fieldAddr s x f =>
      rw [ho] at h
      obtain ⟨v, hv, h1⟩ := bind_some h
      obtain ⟨u, hu, h2⟩ := bind_some h1
      cases h2
      obtain ⟨u', e, r'⟩ := run_fieldAddrA hu (hE x v hv) w
      exact RR.same hr (by simp only [execOp, ho, Sem.run_bind, e, Result.andThen_ok, Sem.run_pure]) r'
    | field s x f =>
      rw [ho] at h
      obtain ⟨v, hv, h1⟩ := bind_some h
      obtain ⟨u, hu, h2⟩ := bind_some h1
      cases h2
      obtain ⟨u', e, r'⟩ := run_fieldA hu (hE x v hv) w
      exact RR.same hr (by simp only [execOp, ho, Sem.run_bind, e, Result.andThen_ok, Sem.run_pure]) r'
    | indexAddr t x ix =>
      rw [ho] at h
      obtain ⟨v, hv, h1⟩ := bind_some h
      obtain ⟨vi, hvi, h2⟩ := bind_some h1
      obtain ⟨u, hu, h3⟩ := bind_some h2
      cases h3
      obtain ⟨u', e, r'⟩ := run_indexAddrA hu (hE x v hv) (hE ix vi hvi) w
      exact RR.same hr (by simp only [execOp, ho, Sem.run_bind, e, Result.andThen_ok, Sem.run_pure]) r'
    | index t x ix =>
      rw [ho] at h
      obtain ⟨v, hv, h1⟩ := bind_some h
      obtain ⟨vi, hvi, h2⟩ := bind_some h1
      obtain ⟨u, hu, h3⟩ := bind_some h2
      cases h3
      obtain ⟨u', e, r'⟩ := run_indexA hu (hE x v hv) (hE ix vi hvi) w
      exact RR.same hr (by simp only [execOp, ho, Sem.run_bind, e, Result.andThen_ok, Sem.run_pure]) r'
    | typeAssert x xt t ok =>
      rw [ho] at h
      obtain ⟨v, hv, h1⟩ := bind_some h
      obtain ⟨u, hu, h2⟩ := bind_some h1
      cases h2
      have rv := hE x v hv
      generalize hxe : a.eval x = x' at rv
      unfold typeAssertA at hu
      obtain ⟨d, hd, h3⟩ := bind_some hu
      have hni : ∀ ms, d ≠ .interface ms := by intro ms e; subst e; cases h3
      have key : ∃ u', (Instr.typeAssert x' xt t ok).run P w = .ok u' w ∧ VR β u u' := by
        cases rv with
        | nili =>
          have h4 : (if ok then (zeroA P t).map fun z => Value.tuple #[z, .bool false] else none) = some u := by
            cases d <;> first | exact absurd rfl (hni _) | exact h3
          split at h4
          case isFalse => cases h4
          rename_i hok
          obtain ⟨z, hz, rfl⟩ := map_some h4
          obtain ⟨rz, pz⟩ := run_zeroValue hz w
          refine ⟨.tuple #[z, .bool false], ?_, .tupleL (by simpa using LR.cons (VR.plain pz) (.cons (.bool false) (.nil β)))⟩
          cases d <;> first | exact absurd rfl (hni _) | simp [Instr.typeAssert, run_underlying hd, hok, rz]
        | iface tt hvv =>
          rename_i v1 v1'
          have h4 : (if tt = t then some (if ok then Value.tuple #[v1, .bool true] else v1) else if ok then (zeroA P t).map fun z => Value.tuple #[z, .bool false] else none) = some u := by
            cases d <;> first | exact absurd rfl (hni _) | exact h3
          split at h4
          · rename_i htt
            subst htt
            cases h4
            cases hok : ok with
            | true =>
              refine ⟨.tuple #[v1', .bool true], ?_, .tupleL (by simpa using LR.cons hvv (.cons (.bool true) (.nil β)))⟩
              cases d <;> first | exact absurd rfl (hni _) | simp [Instr.typeAssert, run_underlying hd]
            | false =>
              refine ⟨v1', ?_, by simpa using hvv⟩
              cases d <;> first | exact absurd rfl (hni _) | simp [Instr.typeAssert, run_underlying hd]
          · rename_i htt
            split at h4
            case isFalse => cases h4
            rename_i hok
            obtain ⟨z, hz, rfl⟩ := map_some h4
            obtain ⟨rz, pz⟩ := run_zeroValue hz w
            refine ⟨.tuple #[z, .bool false], ?_, .tupleL (by simpa using LR.cons (VR.plain pz) (.cons (.bool false) (.nil β)))⟩
            cases d <;> first | exact absurd rfl (hni _) | simp [Instr.typeAssert, run_underlying hd, hok, rz, htt]
        | _ => cases d <;> cases h3
      obtain ⟨u', e, r'⟩ := key
      exact RR.same hr (by simp only [execOp, ho, hxe, Sem.run_bind, e, Result.andThen_ok, Sem.run_pure]) r'
    | extract x i =>
      rw [ho] at h
      obtain ⟨v, hv, h1⟩ := bind_some h
      obtain ⟨u, hu, h2⟩ := bind_some h1
      cases h2
      have rv := hE x v hv
      generalize hxe : a.eval x = x' at rv
      cases rv with
      | tuple hx kx =>
        obtain ⟨u', e, r'⟩ := (LR.ofA hx kx).get (i := i) (u := u) (by simpa [extractA] using hu)
        have e' : ∀ (q : Array Value), q.toList[i]? = some u' → q[i]? = some u' := fun q hq => by simpa using hq
        exact RR.same hr (by simp [execOp, ho, hxe, Instr.extract, e' _ e]) r'
      | _ => cases hu
    | call c =>
      rw [ho] at h
      simp only at h
      cases hb : c.callee with
      | builtin b =>
        rw [hb] at h
        obtain ⟨vs, hvs, h1⟩ := bind_some h
        obtain ⟨q, hq, h2⟩ := bind_some h1
        cases h2
        exact builtin_sound hE hr ho hb hvs hq
      | value f =>
        rw [hb] at h
        obtain ⟨vf, hvf, h1⟩ := bind_some h
        obtain ⟨vs, hvs, h2⟩ := bind_some h1
        obtain ⟨q, hq, h3⟩ := bind_some h2
        cases h3
        have rf := hE f vf hvf
        have rs := mapM_rel hE c.args.toList vs hvs
        generalize hfe : a.eval f = f' at rf
        cases rf with
        | func fn hx hy kx ky =>
          rename_i x x' y y'
          cases fn with
          | func g =>
            cases hq
            refine ⟨rfl, x' ++ c.args.map a.eval ++ y', ?_, ?_⟩
            · simp only [Array.toList_append, Array.toList_map]
              exact ((LR.ofA hx kx).append (by simpa using rs)).append (LR.ofA hy ky)
            · intro fn hfn hbd hnm
              have hb2 : fn.body.isNone = false := by cases hq : fn.body <;> simp_all
              have hcf : (callFunc g (x' ++ c.args.map a.eval ++ y')).run P w = .ok (.enter g (x' ++ c.args.map a.eval ++ y')) w := by
                have hfn' : P.funcs[g]? = some fn := hfn
                simp only [callFunc, Sem.run_bind, run_program, Result.andThen_ok]
                rw [hfn']
                simp only [hnm, hb2, Bool.false_eq_true, if_false, Sem.run_pure]
              simp only [execOp, ho, resolve, hb, hfe, Deferred.ofValue, invoke, Sem.run_bind, Sem.run_pure, Result.andThen_ok, hcf]
          | _ => cases hq
        | _ => cases hq
      | invoke x m => rw [hb] at h; cases h
    | defer c =>
      rw [ho] at h
      simp only at h
      cases hb : c.callee with
      | value f =>
        rw [hb] at h
        obtain ⟨vf, hvf, h1⟩ := bind_some h
        have rf := hE f vf hvf
        generalize hfe : a.eval f = f' at rf
        cases rf with
        | func fn hx hy kx ky =>
          rename_i x x' y y'
          cases fn with
          | func g =>
            obtain ⟨vs, hvs, h2⟩ := bind_some h1
            cases h2
            have rs := mapM_rel hE c.args.toList vs hvs
            refine ⟨rfl, { target := .fn (.func g) y', args := x' ++ c.args.map a.eval }, ?_, g, y, y', rfl, rfl, LR.ofA hy ky, ?_⟩
            · simp [execOp, ho, resolve, hb, hfe, Deferred.ofValue]
            · simp only [Array.toList_append, Array.toList_map]
              exact (LR.ofA hx kx).append (by simpa using rs)
          | _ => cases h1
        | _ => cases h1
      | builtin b => rw [hb] at h; cases h
      | invoke x m => rw [hb] at h; cases h
    | panic x =>
      rw [ho] at h
      obtain ⟨v, hv, h1⟩ := bind_some h
      have rv := hE x v hv
      generalize hxe : a.eval x = x' at rv
      cases rv with
      | iface t hvv =>
        cases h1
        exact ⟨rfl, _, by simp [execOp, ho, hxe, Instr.panic], .iface t hvv⟩
      | _ => cases h1
    | _ => rw [ho] at h; cases h

end
end Go.Am
