/- What a drawing region's proof leans on: 'veq' is equality; quiet operations look at no heap; an operation hangs on its operands alone. Conditions: those of each theorem. -/
import Derived.Test.YthanhcpnhionaaaAmCall
set_option linter.all false
set_option linter.unusedSimpArgs false
set_option linter.unusedVariables false
namespace Go.Am
open Go.RowKit

theorem bytes_eq {s t : ByteArray} (h : (s == t) = true) : s = t := by
  rw [beq_toListBytes, ByteArray.toList_eq, ByteArray.toList_eq] at h
  have h' := eq_of_beq h
  cases s
  cases t
  congr 1
  exact Array.ext' h'

mutual
theorem veq_eq : ∀ (v u : Value), veq v u = true → v = u
  | .bool a, u, h => by cases u <;> simp [veq] at h; rw [h]
  | .int k a, u, h => by cases u <;> simp [veq] at h; rw [h.1, h.2]
  | .float k a, u, h => by cases u <;> simp [veq] at h; rw [h.1, h.2]
  | .complex k a b, u, h => by cases u <;> simp [veq] at h; rw [h.1.1, h.1.2, h.2]
  | .string s, u, h => by
    cases u <;> simp [veq] at h
    rw [bytes_eq h]
  | .pointer a, u, h => by cases u <;> simp [veq] at h; rw [h]
  | .slice a l c, u, h => by cases u <;> simp [veq] at h; obtain ⟨⟨rfl, rfl⟩, rfl⟩ := h; rfl
  | .map a, u, h => by cases u <;> simp [veq] at h; rw [h]
  | .chan a, u, h => by cases u <;> simp [veq] at h; rw [h]
  | .func f x y, u, h => by
    cases u <;> simp [veq] at h
    obtain ⟨⟨rfl, h1⟩, h2⟩ := h
    rw [veqA_eq _ _ h1, veqA_eq _ _ h2]
  | .nilFunc, u, h => by cases u <;> simp [veq] at h; rfl
  | .iface t v, u, h => by
    cases u <;> simp [veq] at h
    obtain ⟨rfl, h1⟩ := h
    rw [veq_eq _ _ h1]
  | .nilIface, u, h => by cases u <;> simp [veq] at h; rfl
  | .agg x, u, h => by
    cases u <;> simp [veq] at h
    rw [veqA_eq _ _ h]
  | .tuple x, u, h => by
    cases u <;> simp [veq] at h
    rw [veqA_eq _ _ h]
theorem veqA_eq : ∀ (v u : Array Value), veqA v u = true → v = u
  | ⟨x⟩, ⟨y⟩, h => by simp only [veqA] at h; rw [veqL_eq x y h]
theorem veqL_eq : ∀ (v u : List Value), veqL v u = true → v = u
  | [], u, h => by cases u <;> simp [veqL] at h; rfl
  | x :: xs, u, h => by
    cases u with
    | nil => simp [veqL] at h
    | cons y ys =>
      simp only [veqL, Bool.and_eq_true] at h
      rw [veq_eq x y h.1, veqL_eq xs ys h.2]
end

section
variable {P : Program}

theorem mapM_congr' {ev ev' : Operand → Option Value} : ∀ (l : List Operand), (∀ x ∈ l, ev x = ev' x) → l.mapM ev = l.mapM ev'
  | [], _ => rfl
  | x :: xs, h => by
    rw [List.mapM_cons, List.mapM_cons, h x (by simp), mapM_congr' xs fun y hy => h y (by simp [hy])]

theorem parts_congr {ev ev' : Operand → Option Value} : ∀ (l : List (Nat × Operand)), (∀ p ∈ l, ev p.2 = ev' p.2) →
    (l.mapM fun (p : Nat × Operand) => (ev p.2).map (p.1, ·)) = l.mapM fun (p : Nat × Operand) => (ev' p.2).map (p.1, ·)
  | [], _ => rfl
  | x :: xs, h => by
    rw [List.mapM_cons, List.mapM_cons, h x (by simp), parts_congr xs fun y hy => h y (by simp [hy])]

theorem optM_congr {ev ev' : Operand → Option Value} (x : Option Operand) (h : ∀ y, x = some y → ev y = ev' y) : x.mapM ev = x.mapM ev' := by
  cases x with
  | none => rfl
  | some y => simp [Option.mapM, h y rfl]

theorem allocA_congr (o : Op) {ev ev' : Operand → Option Value} (h : ∀ x ∈ o.operands, ev x = ev' x) : allocA P o ev = allocA P o ev' := by
  cases o with
  | box t x => simp only [allocA]; rw [h x (by simp [Op.operands])]
  | buildSlice t n parts =>
    have := parts_congr parts.toList (ev := ev) (ev' := ev') fun p hp => h p.2 (by
      simp only [Op.operands]
      simp only [List.mem_toArray, List.mem_map]
      exact ⟨p, hp, rfl⟩)
    simp only [allocA]
    rw [this]
  | makeSlice t l c => simp only [allocA]; rw [h l (by simp [Op.operands]), h c (by simp [Op.operands])]
  | _ => rfl

theorem opA_congr (o : Oper) {ev ev' : Operand → Option Value} (H : Heap) (h : ∀ x ∈ o.op.operands, ev x = ev' x) : opA P o ev H = opA P o ev' H := by
  unfold opA
  rw [allocA_congr (P := P) o.op h]
  split
  · rfl
  cases ho : o.op with
  | move x => simp only [ho] at h ⊢; rw [h x (by simp [Op.operands])]
  | assign x => simp only [ho] at h ⊢; rw [h x (by simp [Op.operands])]
  | pick c x y => simp only [ho] at h ⊢; rw [h c (by simp [Op.operands]), h x (by simp [Op.operands]), h y (by simp [Op.operands])]
  | build t parts =>
    rw [ho] at h
    have := parts_congr parts.toList (ev := ev) (ev' := ev') fun p hp => h p.2 (by
      simp only [Op.operands]
      simp only [List.mem_toArray, List.mem_map]
      exact ⟨p, hp, rfl⟩)
    simp only
    rw [this]
  | load t x => simp only [ho] at h ⊢; rw [h x (by simp [Op.operands])]
  | store t x y => simp only [ho] at h ⊢; rw [h x (by simp [Op.operands]), h y (by simp [Op.operands])]
  | nilCheck x => simp only [ho] at h ⊢; rw [h x (by simp [Op.operands])]
  | binOp op t x y u => simp only [ho] at h ⊢; rw [h x (by simp [Op.operands]), h y (by simp [Op.operands])]
  | unOp op t x => simp only [ho] at h ⊢; rw [h x (by simp [Op.operands])]
  | convert s t x => simp only [ho] at h ⊢; rw [h x (by simp [Op.operands])]
  | makeInterface t x => simp only [ho] at h ⊢; rw [h x (by simp [Op.operands])]
  | makeFunc fn x y =>
    simp only [ho] at h ⊢
    rw [mapM_congr' (ev := ev) (ev' := ev') x.toList fun z hz => h z (by simp [Op.operands]; exact .inl (by simpa using hz)),
      mapM_congr' (ev := ev) (ev' := ev') y.toList fun z hz => h z (by simp [Op.operands]; exact .inr (by simpa using hz))]
  | slice t x lo hi mx =>
    simp only [ho] at h ⊢
    rw [h x (by simp [Op.operands]), optM_congr (ev := ev) (ev' := ev') lo fun y hy => h y (by simp [Op.operands, hy]), optM_congr (ev := ev) (ev' := ev') hi fun y hy => h y (by simp [Op.operands, hy]),
      optM_congr (ev := ev) (ev' := ev') mx fun y hy => h y (by simp [Op.operands, hy])]
  | fieldAddr s x f => simp only [ho] at h ⊢; rw [h x (by simp [Op.operands])]
  | field s x f => simp only [ho] at h ⊢; rw [h x (by simp [Op.operands])]
  | indexAddr t x y => simp only [ho] at h ⊢; rw [h x (by simp [Op.operands]), h y (by simp [Op.operands])]
  | index t x y => simp only [ho] at h ⊢; rw [h x (by simp [Op.operands]), h y (by simp [Op.operands])]
  | typeAssert x a b c => simp only [ho] at h ⊢; rw [h x (by simp [Op.operands])]
  | extract x i => simp only [ho] at h ⊢; rw [h x (by simp [Op.operands])]
  | call c =>
    simp only [ho] at h ⊢
    have ha := mapM_congr' (ev := ev) (ev' := ev') c.args.toList fun z hz => h z (by simp [Op.operands, Call.operands]; right; simpa using hz)
    cases hc : c.callee with
    | builtin b => simp only [ha]
    | value f => simp only [ha]; rw [h f (by simp [Op.operands, Call.operands, hc])]
    | invoke x m => rfl
  | defer c =>
    simp only [ho] at h ⊢
    have ha := mapM_congr' (ev := ev) (ev' := ev') c.args.toList fun z hz => h z (by simp [Op.operands, Call.operands]; right; simpa using hz)
    cases hc : c.callee with
    | value f => simp only [ha]; rw [h f (by simp [Op.operands, Call.operands, hc])]
    | _ => rfl
  | panic x => simp only [ho] at h ⊢; rw [h x (by simp [Op.operands])]
  | _ => rfl

/- a quiet operation looks at no heap -/
theorem quiet_indep {o : Oper} (hk : kdA o = .quiet) {ev : Operand → Option Value} {H H1 : Heap} {r : R} (h : opA P o ev H = some (r, H1)) : H1 = H ∧ ∀ H2, opA P o ev H2 = some (r, H2) := by
  obtain ⟨dst, op, ty, pos, after, guard⟩ := o
  cases op <;> first | (simp [kdA] at hk; done) | skip
  all_goals (unfold opA at h ⊢; simp only [isAlloc, Bool.false_eq_true, if_false] at h ⊢)
  case move x => obtain ⟨v, hv, h1⟩ := bind_some h; cases h1; exact ⟨rfl, fun H2 => by simp [hv]⟩
  case assign x => obtain ⟨v, hv, h1⟩ := bind_some h; cases h1; exact ⟨rfl, fun H2 => by simp [hv]⟩
  case pick c x y =>
    obtain ⟨vc, hvc, h1⟩ := bind_some h
    cases vc with
    | bool b =>
      cases b with
      | true =>
        have h2 : (do some (R.val (← ev x), H)) = some (r, H1) := h1
        obtain ⟨v, hv, h3⟩ := bind_some h2
        cases h3
        exact ⟨rfl, fun H2 => by simp [hvc, hv]⟩
      | false =>
        have h2 : (do some (R.val (← ev y), H)) = some (r, H1) := h1
        obtain ⟨v, hv, h3⟩ := bind_some h2
        cases h3
        exact ⟨rfl, fun H2 => by simp [hvc, hv]⟩
    | _ => cases h1
  case build t ps =>
    obtain ⟨v, hv, h1⟩ := bind_some h
    obtain ⟨u, hu, h2⟩ := bind_some h1
    cases h2
    exact ⟨rfl, fun H2 => by rw [hv]; simp [hu]⟩
  case nilCheck x =>
    obtain ⟨v, hv, h1⟩ := bind_some h
    rw [hv]
    cases v with
    | pointer q => cases q with
      | none => cases h1
      | some q => cases h1; exact ⟨rfl, fun H2 => rfl⟩
    | func f a c => cases f with
      | func f => cases h1; exact ⟨rfl, fun H2 => rfl⟩
      | _ => cases h1
    | iface t v => cases h1; exact ⟨rfl, fun H2 => rfl⟩
    | _ => cases h1
  case binOp op t x y u =>
    obtain ⟨vx, hvx, h1⟩ := bind_some h
    obtain ⟨vy, hvy, h2⟩ := bind_some h1
    split at h2
    case isFalse => cases h2
    rename_i hg
    obtain ⟨q, hq, h3⟩ := bind_some h2
    cases h3
    exact ⟨rfl, fun H2 => by simp [hvx, hvy, hg, hq]⟩
  case unOp op t x =>
    obtain ⟨v, hv, h1⟩ := bind_some h
    obtain ⟨u, hu, h2⟩ := bind_some h1
    cases h2
    exact ⟨rfl, fun H2 => by simp [hv, hu]⟩
  case convert s t x =>
    obtain ⟨v, hv, h1⟩ := bind_some h
    obtain ⟨u, hu, h2⟩ := bind_some h1
    cases h2
    exact ⟨rfl, fun H2 => by simp [hv, hu]⟩
  case makeInterface t x =>
    obtain ⟨v, hv, h1⟩ := bind_some h
    obtain ⟨u, hu, h2⟩ := bind_some h1
    cases h2
    exact ⟨rfl, fun H2 => by simp [hv, hu]⟩
  case makeFunc fn x y =>
    obtain ⟨v, hv, h1⟩ := bind_some h
    obtain ⟨u, hu, h2⟩ := bind_some h1
    cases h2
    exact ⟨rfl, fun H2 => by rw [hv]; simp [hu]⟩
  case fieldAddr s x f =>
    obtain ⟨v, hv, h1⟩ := bind_some h
    obtain ⟨u, hu, h2⟩ := bind_some h1
    cases h2
    exact ⟨rfl, fun H2 => by simp [hv, hu]⟩
  case field s x f =>
    obtain ⟨v, hv, h1⟩ := bind_some h
    obtain ⟨u, hu, h2⟩ := bind_some h1
    cases h2
    exact ⟨rfl, fun H2 => by simp [hv, hu]⟩
  case indexAddr t x y =>
    obtain ⟨v, hv, h1⟩ := bind_some h
    obtain ⟨i, hi, h2⟩ := bind_some h1
    obtain ⟨u, hu, h3⟩ := bind_some h2
    cases h3
    exact ⟨rfl, fun H2 => by simp [hv, hi, hu]⟩
  case index t x y =>
    obtain ⟨v, hv, h1⟩ := bind_some h
    obtain ⟨i, hi, h2⟩ := bind_some h1
    obtain ⟨u, hu, h3⟩ := bind_some h2
    cases h3
    exact ⟨rfl, fun H2 => by simp [hv, hi, hu]⟩
  case typeAssert x a b c =>
    obtain ⟨v, hv, h1⟩ := bind_some h
    obtain ⟨u, hu, h2⟩ := bind_some h1
    cases h2
    exact ⟨rfl, fun H2 => by simp [hv, hu]⟩
  case extract x i =>
    obtain ⟨v, hv, h1⟩ := bind_some h
    obtain ⟨u, hu, h2⟩ := bind_some h1
    cases h2
    exact ⟨rfl, fun H2 => by simp [hv, hu]⟩
  case call c =>
    obtain ⟨callee, args, ts⟩ := c
    cases callee with
    | builtin b =>
      obtain ⟨vs, hvs, h1⟩ := bind_some h
      obtain ⟨q, hq, h2⟩ := bind_some h1
      cases h2
      simp only [hvs]
      cases b <;> first | (simp [kdA] at hk; done) | skip
      case len =>
        match vs with
        | [x] =>
          obtain ⟨t, ht, h3⟩ := bind_some hq
          obtain ⟨u, hu, e⟩ := map_some h3
          cases e
          exact ⟨rfl, fun H2 => by simp [builtinA, ht, hu]⟩
        | [] => cases hq
        | _ :: _ :: _ => cases hq
      case min =>
        match vs with
        | [x, y] =>
          obtain ⟨u, hu, e⟩ := map_some hq
          cases e
          exact ⟨rfl, fun H2 => by simp [builtinA, hu]⟩
        | [] => cases hq
        | [_] => cases hq
        | _ :: _ :: _ :: _ => cases hq
      case max =>
        match vs with
        | [x, y] =>
          obtain ⟨u, hu, e⟩ := map_some hq
          cases e
          exact ⟨rfl, fun H2 => by simp [builtinA, hu]⟩
        | [] => cases hq
        | [_] => cases hq
        | _ :: _ :: _ :: _ => cases hq
    | _ => simp [kdA] at hk

/- a reading leaves the heap -/
theorem read_same {o : Oper} (hk : kdA o = .read) {ev : Operand → Option Value} {H H1 : Heap} {r : R} (h : opA P o ev H = some (r, H1)) : H1 = H ∧ ∃ v, r = .val v := by
  obtain ⟨dst, op, ty, pos, after, guard⟩ := o
  cases op <;> first | (simp [kdA] at hk; done) | skip
  all_goals (unfold opA at h; simp only [isAlloc, Bool.false_eq_true, if_false] at h)
  case load t x =>
    obtain ⟨v, hv, h1⟩ := bind_some h
    obtain ⟨u, hu, h2⟩ := bind_some h1
    cases h2
    exact ⟨rfl, u, rfl⟩
  case slice t x lo hi mx =>
    obtain ⟨v, hv, h1⟩ := bind_some h
    obtain ⟨vl, hvl, h2⟩ := bind_some h1
    obtain ⟨vh, hvh, h3⟩ := bind_some h2
    obtain ⟨vm, hvm, h4⟩ := bind_some h3
    obtain ⟨u, hu, h5⟩ := bind_some h4
    cases h5
    exact ⟨rfl, u, rfl⟩
  case call c =>
    obtain ⟨callee, args, ts⟩ := c
    cases callee with
    | builtin b => cases b <;> simp [kdA] at hk
    | _ => simp [kdA] at hk

end
end Go.Am
