/- Equations for evaluating the abstract machine on symbols. Conditions: those of each theorem. -/
import Derived.Test.YthanhcpnhionaaaAmLim
set_option linter.all false
set_option linter.unusedSimpArgs false
set_option linter.unusedVariables false
namespace Go.Am

section
variable {P : Program}

theorem execW_skip (s : St) : execW P .skip s = some (.normal, s) := by rw [execW_eq]; rfl
theorem execW_seq (a b : Code) (s : St) : execW P (.seq a b) s = match execW P a s with | some (.normal, s') => execW P b s' | r => r := by rw [execW_eq]; rfl
theorem execW_cond (c : Operand) (a b : Code) (s : St) : execW P (.cond c a b) s = match s.ev c with | some (.bool t) => execW P (if t then a else b) s | _ => none := by rw [execW_eq]; rfl
theorem execW_block (id : Nat) (b : Code) (s : St) : execW P (.block id b) s = match execW P b s with | some (.exit id', s') => if id' = id then some (.normal, s') else some (.exit id', s') | r => r := by rw [execW_eq]; rfl
theorem execW_exit (id : Nat) (s : St) : execW P (.exit id) s = some (.exit id, s) := by rw [execW_eq]; rfl
theorem execW_ret (s : St) : execW P .ret s = some (.ret, s) := by rw [execW_eq]; rfl
theorem execW_text (id : Nat) (ops : Array Oper) (s : St) : execW P (.region id ops false) s = runOps P (callW P) ops ops.toList s := by rw [execW_eq]; rfl
theorem execW_draw (id : Nat) (ops : Array Oper) (s : St) : execW P (.region id ops true) s = regionD P (callW P) ops s := by rw [execW_eq]; rfl
theorem execW_loop (b : Code) (s : St) : execW P (.loop b) s = match execW P b s with | some (.normal, s') => execW P (.loop b) s' | r => r := by rw [execW_eq]; rfl

/- an operation that is calm, in a heap with another next number -/
theorem calm_next {o : Oper} (hk : kdA o = .quiet ∨ kdA o = .read) (ev : Operand → Option Value) (H : Heap) (n : Nat) :
    opA P o ev { H with next := n } = (opA P o ev H).map fun r => (r.1, { H with next := n }) := by
  cases h : opA P o ev H with
  | some r =>
    obtain ⟨r, H1⟩ := r
    rcases hk with hk | hk
    · exact (quiet_indep hk h).2 _
    · obtain ⟨rfl, v, rfl⟩ := read_same hk h
      obtain ⟨dst, op, ty, pos, after, guard⟩ := o
      cases op <;> first | (simp [kdA] at hk; done) | skip
      case load t x => 
        unfold opA at h ⊢
        simp only [isAlloc, Bool.false_eq_true, if_false] at h ⊢
        obtain ⟨u, hu, h1⟩ := bind_some h
        obtain ⟨q, hq, h2⟩ := bind_some h1
        cases h2
        have hq' : loadA P { H1 with next := n } t u = some v := hq
        simp [hu, hq']
      case slice t x lo hi mx =>
        unfold opA at h ⊢
        simp only [isAlloc, Bool.false_eq_true, if_false] at h ⊢
        obtain ⟨u, hu, h1⟩ := bind_some h
        obtain ⟨vl, hvl, h2⟩ := bind_some h1
        obtain ⟨vh, hvh, h3⟩ := bind_some h2
        obtain ⟨vm, hvm, h4⟩ := bind_some h3
        obtain ⟨q, hq, h5⟩ := bind_some h4
        cases h5
        have hq' : sliceA P { H1 with next := n } t u vl vh vm = some v := hq
        simp only [hu, hvl, hvh, hvm, Option.bind_eq_bind, Option.bind_some, hq', Option.map_some]
      case call c =>
        obtain ⟨callee, args, ts⟩ := c
        cases callee with
        | builtin b => cases b <;> simp [kdA] at hk
        | _ => simp [kdA] at hk
  | none =>
    cases h2 : opA P o ev { H with next := n } with
    | none => rfl
    | some r =>
      obtain ⟨r, H1⟩ := r
      rcases hk with hk | hk
      · have := (quiet_indep hk h2).2 H
        rw [h] at this; cases this
      · obtain ⟨rfl, v, rfl⟩ := read_same hk h2
        exfalso
        obtain ⟨dst, op, ty, pos, after, guard⟩ := o
        cases op <;> first | (simp [kdA] at hk; done) | skip
        case load t x =>
          unfold opA at h h2
          simp only [isAlloc, Bool.false_eq_true, if_false] at h h2
          obtain ⟨u, hu, h1⟩ := bind_some h2
          obtain ⟨q, hq, h3⟩ := bind_some h1
          have hq' : loadA P H t u = some q := hq
          simp [hu, hq'] at h
        case slice t x lo hi mx =>
          unfold opA at h h2
          simp only [isAlloc, Bool.false_eq_true, if_false] at h h2
          obtain ⟨u, hu, h1⟩ := bind_some h2
          obtain ⟨vl, hvl, h3⟩ := bind_some h1
          obtain ⟨vh, hvh, h4⟩ := bind_some h3
          obtain ⟨vm, hvm, h5⟩ := bind_some h4
          obtain ⟨q, hq, h6⟩ := bind_some h5
          have hq' : sliceA P H t u vl vh vm = some q := hq
          simp only [hu, hvl, hvh, hvm, Option.bind_eq_bind, Option.bind_some, hq'] at h
          cases h
        case call c =>
          obtain ⟨callee, args, ts⟩ := c
          cases callee with
          | builtin b => cases b <;> simp [kdA] at hk
          | _ => simp [kdA] at hk

theorem calm_val {o : Oper} (hk : kdA o = .quiet ∨ kdA o = .read) {ev : Operand → Option Value} {H H1 : Heap} {r : R} (h : opA P o ev H = some (r, H1)) : H1 = H := by
  rcases hk with hk | hk
  · exact (quiet_indep hk h).1
  · exact (read_same hk h).1

/- a calm region is run in the text's order -/
theorem runD_calm {cl : Cl} {ops : Array Oper} {b : Array Nat} {r0 : Nat} (n : Nat) : ∀ (l : List Oper) (i : Nat) (s : St) (rd : List (Nat × Oper × St × Value)), (∀ o ∈ l, kdA o = .quiet ∨ kdA o = .read) → ∀ e s', runOps P cl ops l s = some (e, s') →
    (∀ o ∈ l, ∀ v, ∀ s2 : St, ∀ H2, opA P o s2.ev s2.H = some (v, H2) → ∃ u, v = .val u) →
    e = .normal ∧ s'.H = s.H ∧ ∃ rd', runD P cl ops b r0 i l { s := { s with H := { s.H with next := n } }, A := [], hist := [], cs := [], rd := rd } = some { s := { s' with H := { s.H with next := n } }, A := [], hist := [], cs := [], rd := rd' }
  | [], i, s, rd, _, e, s', h, _ => by
    simp only [runOps, Option.some.injEq, Prod.mk.injEq] at h
    obtain ⟨rfl, rfl⟩ := h
    exact ⟨rfl, rfl, rd, rfl⟩
  | o :: l, i, s, rd, hk, e, s', h, hv => by
    have hko := hk o (by simp)
    have hkl : ∀ o ∈ l, kdA o = .quiet ∨ kdA o = .read := fun o ho => hk o (by simp [ho])
    have hvl : ∀ o ∈ l, ∀ v, ∀ s2 : St, ∀ H2, opA P o s2.ev s2.H = some (v, H2) → ∃ u, v = .val u := fun o ho => hv o (by simp [ho])
    have hw2 : ∀ (s : St) (H : Heap), wantedA o ops { s with H := H } = wantedA o ops s := fun s H => rfl
    simp only [runOps] at h
    simp only [runD]
    split at h
    · rename_i hw
      cases hd : doOp P cl o s with
      | none => rw [hd] at h; cases h
      | some q =>
        obtain ⟨e1, s1⟩ := q
        rw [hd] at h
        unfold doOp at hd
        obtain ⟨⟨r, H1⟩, hr, h1⟩ := bind_some hd
        obtain ⟨u, rfl⟩ := hv o (by simp) r s H1 hr
        have hH := calm_val hko hr
        subst hH
        cases h1
        have hnx := calm_next (P := P) hko s.ev s.H n
        rw [hr] at hnx
        have hst : stepD P cl ops b r0 i o { s := { s with H := { s.H with next := n } }, A := [], hist := [], cs := [], rd := rd } =
            some { s := ({ s with H := { s.H with next := n } } : St).put o.dst u, A := [], hist := [], cs := [], rd := if kdA o = .read then (i, o, { s with H := { s.H with next := n } }, u) :: rd else rd } := by
          unfold stepD
          dsimp only
          rw [if_pos (by rw [hw2]; exact hw)]
          rcases hko with hq | hq
          · rw [hq]
            have : opA P o ({ s with H := { s.H with next := n } } : St).ev { s.H with next := n } = some (.val u, { s.H with next := n }) := hnx
            simp only [this, Option.bind_eq_bind, Option.bind_some]
            simp
          · rw [hq]
            have : readsA P r0 b [] i o ({ s with H := { s.H with next := n } } : St) { s.H with next := n } = some u := by
              unfold readsA
              have : opA P o ({ s with H := { s.H with next := n } } : St).ev { s.H with next := n } = some (.val u, { s.H with next := n }) := hnx
              simp only [List.filter_nil, layA, this]
            simp only [this, Option.bind_eq_bind, Option.bind_some, backA, if_true]
        rw [hst]
        have ih := runD_calm (cl := cl) (b := b) (r0 := r0) n l (i + 1) (s.put o.dst u) (if kdA o = .read then (i, o, { s with H := { s.H with next := n } }, u) :: rd else rd) hkl e s' h hvl
        obtain ⟨i1, i2, rd', i3⟩ := ih
        refine ⟨i1, by rw [i2]; simp, rd', ?_⟩
        have e1 : ({ s with H := { s.H with next := n } } : St).put o.dst u = { (s.put o.dst u) with H := { (s.put o.dst u).H with next := n } } := by
          cases o.dst with
          | none => rfl
          | some d => simp only [St.put]; split <;> rfl
        rw [e1]
        simp only [put_H] at i3 ⊢
        exact i3
    · rename_i hw
      have hst : stepD P cl ops b r0 i o { s := { s with H := { s.H with next := n } }, A := [], hist := [], cs := [], rd := rd } =
          some { s := ({ s with H := { s.H with next := n } } : St).put o.dst undef, A := [], hist := [], cs := [], rd := rd } := by
        unfold stepD
        dsimp only
        rw [if_neg (by rw [hw2]; exact hw)]
      rw [hst]
      obtain ⟨i1, i2, rd', i3⟩ := runD_calm (cl := cl) (b := b) (r0 := r0) n l (i + 1) (s.put o.dst undef) rd hkl e s' h hvl
      refine ⟨i1, by rw [i2]; simp, rd', ?_⟩
      have e1 : ({ s with H := { s.H with next := n } } : St).put o.dst undef = { (s.put o.dst undef) with H := { (s.put o.dst undef).H with next := n } } := by
        cases o.dst with
        | none => rfl
        | some d => simp only [St.put]; split <;> rfl
      rw [e1]
      simp only [put_H] at i3 ⊢
      exact i3

theorem calm_isval {o : Oper} (hk : kdA o = .quiet ∨ kdA o = .read) {ev : Operand → Option Value} {H H1 : Heap} {r : R} (h : opA P o ev H = some (r, H1)) : ∃ u, r = .val u := by
  rcases hk with hk | hk
  · obtain ⟨dst, op, ty, pos, after, guard⟩ := o
    cases op <;> first | (simp [kdA] at hk; done) | skip
    all_goals (unfold opA at h; simp only [isAlloc, Bool.false_eq_true, if_false] at h)
    case move x => obtain ⟨v, hv, h1⟩ := bind_some h; cases h1; exact ⟨_, rfl⟩
    case assign x => obtain ⟨v, hv, h1⟩ := bind_some h; cases h1; exact ⟨_, rfl⟩
    case pick c x y =>
      obtain ⟨vc, hvc, h1⟩ := bind_some h
      cases vc with
      | bool b =>
        cases b with
        | true =>
          have h2 : (do some (R.val (← ev x), H)) = some (r, H1) := h1
          obtain ⟨v, hv, h3⟩ := bind_some h2
          cases h3; exact ⟨_, rfl⟩
        | false =>
          have h2 : (do some (R.val (← ev y), H)) = some (r, H1) := h1
          obtain ⟨v, hv, h3⟩ := bind_some h2
          cases h3; exact ⟨_, rfl⟩
      | _ => cases h1
    case build t ps => obtain ⟨v, hv, h1⟩ := bind_some h; obtain ⟨u, hu, h2⟩ := bind_some h1; cases h2; exact ⟨_, rfl⟩
    case nilCheck x =>
      obtain ⟨v, hv, h1⟩ := bind_some h
      cases v with
      | pointer q => cases q with
        | none => cases h1
        | some q => cases h1; exact ⟨_, rfl⟩
      | func f a c => cases f with
        | func f => cases h1; exact ⟨_, rfl⟩
        | _ => cases h1
      | iface t v => cases h1; exact ⟨_, rfl⟩
      | _ => cases h1
    case binOp op t x y u =>
      obtain ⟨vx, hvx, h1⟩ := bind_some h
      obtain ⟨vy, hvy, h2⟩ := bind_some h1
      split at h2
      case isFalse => cases h2
      obtain ⟨q, hq, h3⟩ := bind_some h2
      cases h3; exact ⟨_, rfl⟩
    case unOp op t x => obtain ⟨v, hv, h1⟩ := bind_some h; obtain ⟨u, hu, h2⟩ := bind_some h1; cases h2; exact ⟨_, rfl⟩
    case convert s t x => obtain ⟨v, hv, h1⟩ := bind_some h; obtain ⟨u, hu, h2⟩ := bind_some h1; cases h2; exact ⟨_, rfl⟩
    case makeInterface t x => obtain ⟨v, hv, h1⟩ := bind_some h; obtain ⟨u, hu, h2⟩ := bind_some h1; cases h2; exact ⟨_, rfl⟩
    case makeFunc fn x y => obtain ⟨v, hv, h1⟩ := bind_some h; obtain ⟨u, hu, h2⟩ := bind_some h1; cases h2; exact ⟨_, rfl⟩
    case fieldAddr s x f => obtain ⟨v, hv, h1⟩ := bind_some h; obtain ⟨u, hu, h2⟩ := bind_some h1; cases h2; exact ⟨_, rfl⟩
    case field s x f => obtain ⟨v, hv, h1⟩ := bind_some h; obtain ⟨u, hu, h2⟩ := bind_some h1; cases h2; exact ⟨_, rfl⟩
    case indexAddr t x y => obtain ⟨v, hv, h1⟩ := bind_some h; obtain ⟨i, hi, h2⟩ := bind_some h1; obtain ⟨u, hu, h3⟩ := bind_some h2; cases h3; exact ⟨_, rfl⟩
    case index t x y => obtain ⟨v, hv, h1⟩ := bind_some h; obtain ⟨i, hi, h2⟩ := bind_some h1; obtain ⟨u, hu, h3⟩ := bind_some h2; cases h3; exact ⟨_, rfl⟩
    case typeAssert x a b c => obtain ⟨v, hv, h1⟩ := bind_some h; obtain ⟨u, hu, h2⟩ := bind_some h1; cases h2; exact ⟨_, rfl⟩
    case extract x i => obtain ⟨v, hv, h1⟩ := bind_some h; obtain ⟨u, hu, h2⟩ := bind_some h1; cases h2; exact ⟨_, rfl⟩
    case call c =>
      obtain ⟨callee, args, ts⟩ := c
      cases callee with
      | builtin b => obtain ⟨vs, hvs, h1⟩ := bind_some h; obtain ⟨q, hq, h2⟩ := bind_some h1; cases h2; exact ⟨_, rfl⟩
      | _ => simp [kdA] at hk
  · obtain ⟨_, v, rfl⟩ := read_same hk h
    exact ⟨v, rfl⟩

theorem regionD_calm {cl : Cl} {ops : Array Oper} {s : St} {e : Ex} {s' : St} (hok : okD ops = true) (hc : calmD ops = true) (h : runOps P cl ops ops.toList s = some (e, s')) : regionD P cl ops s = some (e, s') := by
  have hk : ∀ o ∈ ops.toList, kdA o = .quiet ∨ kdA o = .read := by
    intro o ho
    have := List.all_eq_true.1 hc o ho
    simpa using this
  obtain ⟨rfl, hH, rd', h2⟩ := runD_calm (P := P) (cl := cl) (ops := ops) (b := Region.before ops) (r0 := s.H.next) (s.H.next + ops.size + 1) ops.toList 0 s [] hk e s' h
    (fun o ho v s2 H2 hv => calm_isval (hk o ho) hv)
  unfold regionD
  rw [if_pos hok]
  dsimp only
  rw [h2]
  simp only [Option.bind_eq_bind, Option.bind_some, hc, if_true]
  rw [← hH]

end
end Go.Am
