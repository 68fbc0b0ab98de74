/- Drawing regions of the abstract machine stand for the world's, in whatever order they are done. Conditions: those of each theorem. -/
import Derived.Test.YthanhcpnhionaaaAmDrawC
set_option linter.all false
set_option linter.unusedSimpArgs false
set_option linter.unusedVariables false
namespace Go.Am
open Go.RowKit

section
variable {P : Program} {cl : Cl} {ops : Array Oper} {b : Array Nat} {r0 : Nat} {T : Nat → DS} {N : Nat}

theorem layA_next : ∀ (A : List (Nat × Blk)) (H : Heap), (layA r0 H A).next = H.next
  | [], H => rfl
  | (i, x) :: rest, H => by simp only [layA]; rw [layA_next rest]; exact Heap.set_next _ _ _

theorem layA_get (hr0 : base0 ≤ r0) : ∀ (A : List (Nat × Blk)) (H : Heap) (id : Nat), (∀ p ∈ A, r0 + p.1 ≠ id) → (layA r0 H A).get id = H.get id
  | [], H, id, _ => rfl
  | (i, x) :: rest, H, id, h => by
    simp only [layA]
    rw [layA_get hr0 rest _ id fun p hp => h p (by simp [hp]), Heap.get_set (by omega), if_neg]
    exact fun e => h (i, x) (by simp) e.symm

theorem layA_mem (hr0 : base0 ≤ r0) : ∀ (A : List (Nat × Blk)) (H : Heap), (∀ p ∈ A, ∀ q ∈ A, p.1 = q.1 → p.2 = q.2) → ∀ p ∈ A, (layA r0 H A).get (r0 + p.1) = some p.2
  | [], H, _, p, hp => by cases hp
  | (i, x) :: rest, H, h, p, hp => by
    simp only [layA]
    by_cases hq : ∃ q ∈ rest, q.1 = p.1
    · obtain ⟨q, hq, e⟩ := hq
      rw [← e, layA_mem hr0 rest _ (fun p hp q hq => h p (by simp [hp]) q (by simp [hq])) q hq]
      rw [h q (by simp [hq]) p hp e]
    · rw [layA_get hr0 rest _ _ fun q hqr e => hq ⟨q, hqr, by omega⟩]
      rcases List.mem_cons.1 hp with rfl | hp'
      · rw [Heap.get_set (by omega), if_pos rfl]
      · exact absurd ⟨p, hp', rfl⟩ hq

/- what is set aside while the region runs: its own numbers: of blocks that were made and that the chain has not wanted: with them -/
def XD (P : Program) (ops : Array Oper) (T : Nat → DS) (b : Array Nat) (r0 : Nat) (X : XF) (D : Nat → Bool) (m : Nat) : XF := fun id =>
  if r0 ≤ id ∧ id < r0 + (ops.size + 1) then
    if D (id - r0) = true ∧ alB ops T (id - r0) = true then
      if ((List.range m).any fun c => chB ops T c && ancA b c (id - r0)) = true then none else some (blkO P ops T (id - r0))
    else some none
  else X id

/- a block that is pending -/
structure Pend (P : Program) (ops : Array Oper) (T : Nat → DS) (b : Array Nat) (D : Nat → Bool) (m : Nat) (p : Nat × Blk) : Prop where
  lt : p.1 < ops.size
  D : D p.1 = true
  al : alB ops T p.1 = true
  bl : blkO P ops T p.1 = some p.2
  no : ∀ c, c < m → chB ops T c = true → ancA b c p.1 = false

theorem Pend.xd {D : Nat → Bool} {m : Nat} {p : Nat × Blk} (h : Pend P ops T b D m p) (X : XF) : XD P ops T b r0 X D m (r0 + p.1) = some (some p.2) := by
  have h1 := h.lt
  simp only [XD, Nat.add_sub_cancel_left]
  rw [if_pos ⟨by omega, by omega⟩, if_pos ⟨h.D, h.al⟩, if_neg, h.bl]
  simp only [List.any_eq_true, List.mem_range, Bool.and_eq_true, not_exists, not_and]
  intro c hc hch
  simp [h.no c hc hch]

def XM (r0 : Nat) (X : XF) (Af : List (Nat × Blk)) : XF := fun id => if (Af.any fun p => r0 + p.1 == id) = true then none else X id

theorem XM_key {X : XF} {Af : List (Nat × Blk)} {p : Nat × Blk} (hp : p ∈ Af) : XM r0 X Af (r0 + p.1) = none := by
  unfold XM
  rw [if_pos]
  exact List.any_eq_true.2 ⟨p, hp, by simp⟩

theorem XM_other {X : XF} {Af : List (Nat × Blk)} {id : Nat} (h : ∀ p ∈ Af, r0 + p.1 ≠ id) : XM r0 X Af id = X id := by
  unfold XM
  rw [if_neg]
  simp only [List.any_eq_true, beq_iff_eq, not_exists, not_and]
  exact fun p hp => h p hp

theorem HR.lay (hr0 : base0 ≤ r0) {β : Ren} {S : Heap} {X : XF} {base : Nat} {w : World} {D : Nat → Bool} {m : Nat} (h : HR β S (XD P ops T b r0 X D m) base w) (Af : List (Nat × Blk))
    (hA : ∀ p ∈ Af, Pend P ops T b D m p) : HR β (layA r0 S Af) (XM r0 (XD P ops T b r0 X D m) Af) base w := by
  have huniq : ∀ p ∈ Af, ∀ q ∈ Af, p.1 = q.1 → p.2 = q.2 := by
    intro p hp q hq e
    have h1 := (hA p hp).bl
    have h2 := (hA q hq).bl
    rw [e, h2] at h1
    simpa using h1.symm
  refine h.congr ?_ (by rw [layA_next]; exact Nat.le_refl _) (by rw [layA_next]; exact h.fresh) ?_ ?_
  · intro id
    by_cases hk : ∃ p ∈ Af, r0 + p.1 = id
    · obtain ⟨p, hp, rfl⟩ := hk
      have hx := (hA p hp).xd (r0 := r0) X
      simp only [getX, layA_mem hr0 Af S huniq p hp, XM_key hp, hx, h.disj _ _ hx]
      rfl
    · have hk' : ∀ p ∈ Af, r0 + p.1 ≠ id := fun p hp e => hk ⟨p, hp, e⟩
      simp only [getX, layA_get hr0 Af S id hk', XM_other hk']
  · intro id x hx
    by_cases hk : ∃ p ∈ Af, r0 + p.1 = id
    · obtain ⟨p, hp, rfl⟩ := hk
      rw [XM_key hp] at hx; cases hx
    · have hk' : ∀ p ∈ Af, r0 + p.1 ≠ id := fun p hp e => hk ⟨p, hp, e⟩
      rw [XM_other hk'] at hx
      rw [layA_get hr0 Af S id hk', layA_next]
      exact ⟨h.disj id x hx, h.xlt id x hx⟩
  · intro id hx
    by_cases hk : ∃ p ∈ Af, r0 + p.1 = id
    · obtain ⟨p, hp, rfl⟩ := hk
      rw [XM_key hp] at hx; cases hx
    · have hk' : ∀ p ∈ Af, r0 + p.1 ≠ id := fun p hp e => hk ⟨p, hp, e⟩
      rw [XM_other hk'] at hx
      exact h.res id hx

theorem HR.unlay (hr0 : base0 ≤ r0) {β : Ren} {S : Heap} {X : XF} {base : Nat} {w : World} {D : Nat → Bool} {m : Nat} (Af : List (Nat × Blk)) (hA : ∀ p ∈ Af, Pend P ops T b D m p)
    (hS : ∀ p ∈ Af, S.get (r0 + p.1) = none) (hn : r0 + ops.size < S.next) (h : HR β (layA r0 S Af) (XM r0 (XD P ops T b r0 X D m) Af) base w) : HR β S (XD P ops T b r0 X D m) base w := by
  have huniq : ∀ p ∈ Af, ∀ q ∈ Af, p.1 = q.1 → p.2 = q.2 := by
    intro p hp q hq e
    have h1 := (hA p hp).bl
    have h2 := (hA q hq).bl
    rw [e, h2] at h1
    simpa using h1.symm
  have hnx : (layA r0 S Af).next = S.next := layA_next _ _
  refine h.congr ?_ (by rw [hnx]; exact Nat.le_refl _) (by have := h.fresh; rwa [hnx] at this) ?_ ?_
  · intro id
    by_cases hk : ∃ p ∈ Af, r0 + p.1 = id
    · obtain ⟨p, hp, rfl⟩ := hk
      have hx := (hA p hp).xd (r0 := r0) X
      simp only [getX, layA_mem hr0 Af S huniq p hp, XM_key hp, hx, hS p hp]
      rfl
    · have hk' : ∀ p ∈ Af, r0 + p.1 ≠ id := fun p hp e => hk ⟨p, hp, e⟩
      simp only [getX, layA_get hr0 Af S id hk', XM_other hk']
  · intro id x hx
    by_cases hk : ∃ p ∈ Af, r0 + p.1 = id
    · obtain ⟨p, hp, rfl⟩ := hk
      have := (hA p hp).lt
      exact ⟨hS p hp, by omega⟩
    · have hk' : ∀ p ∈ Af, r0 + p.1 ≠ id := fun p hp e => hk ⟨p, hp, e⟩
      have hx' : XM r0 (XD P ops T b r0 X D m) Af id = some x := by rw [XM_other hk']; exact hx
      have h1 := h.disj id x hx'
      have h2 := h.xlt id x hx'
      rw [layA_get hr0 Af S id hk'] at h1
      rw [hnx] at h2
      exact ⟨h1, h2⟩
  · intro id hx
    by_cases hk : ∃ p ∈ Af, r0 + p.1 = id
    · obtain ⟨p, hp, rfl⟩ := hk
      rw [(hA p hp).xd (r0 := r0) X] at hx; cases hx
    · have hk' : ∀ p ∈ Af, r0 + p.1 ≠ id := fun p hp e => hk ⟨p, hp, e⟩
      exact h.res id (by rw [XM_other hk']; exact hx)

/- the chain's operations ahead of 'mOf' are in the set -/
theorem mOf_in (ok : OkD ops b) (ht : Tra P cl ops b r0 T N) {D : Nat → Bool} (hD : Closed ops D) {c : Nat} (hc : c < mOf ops T D ops.size) (hch : chB ops T c = true) : D c = true := by
  rcases (mOf_spec (ops := ops) (T := T) D ops.size).1 with h | ⟨j, hj, hm, hDj, hcj⟩
  · omega
  · by_cases e : c = j
    · rw [e]; exact hDj
    · obtain ⟨_, _, hcs, _⟩ := chB_step ht hj hcj
      have hmem : c ∈ (T j).cs := (ht.mem_cs j (by omega) c).2 ⟨by omega, hch⟩
      exact ok.closed hD j hj (hD j hj hDj) c (by omega) (List.all_eq_true.1 hcs c hmem)

theorem slot_put (s : St) (t : Tmp) (v : Value) : (s.put (some t) v).slot t = if t < s.n then v else s.slot t := by
  simp only [St.put]
  split
  · simp [St.slot]
  · rfl

theorem yielded_slot (ops : Array Oper) (s : St) (j : Nat) : yieldedA ops s j = match (ops[j]?).bind (·.dst) with
    | some t => (match s.slot t with | .bool b => some b | _ => none)
    | none => none := by
  unfold yieldedA
  cases (ops[j]?).bind (·.dst) with
  | none => rfl
  | some t =>
    simp only [St.slot]
    cases s.f.get t with
    | none => rfl
    | some v => cases v <;> rfl

theorem wanted_congr {s s2 : St} {o : Oper} (h : ∀ t ∈ o.looksAt ops, s.slot t = s2.slot t) : wantedA o ops s = wantedA o ops s2 := by
  unfold wantedA
  cases hg : o.guard with
  | none => rfl
  | some g =>
    obtain ⟨j, want⟩ := g
    simp only [yielded_slot]
    cases hd : (ops[j]?).bind (·.dst) with
    | none => rfl
    | some t =>
      have := h t (by simp [Oper.looksAt, hg, hd])
      simp only [this]

theorem ev_congr {s s2 : St} {o : Oper} (h : ∀ t ∈ o.looksAt ops, s.slot t = s2.slot t) : ∀ x ∈ o.op.operands, s.ev x = s2.ev x := by
  intro x hx
  cases x with
  | tmp t =>
    have := h t (by
      unfold Oper.looksAt
      exact List.mem_append_left _ (List.mem_filterMap.2 ⟨.tmp t, by simpa using hx, rfl⟩))
    simp [St.ev, this]
  | _ => rfl

/- WHAT HOLDS while the region runs, a set of its operations done -/
structure Inv (P : Program) (ops : Array Oper) (b : Array Nat) (r0 : Nat) (T : Nat → DS) (N : Nat) (β0 : Ren) (X : XF) (base : Nat) (w0 : World) (D : Nat → Bool) (a : Act) (w : World) (β : Ren) (s : St) : Prop where
  le : Le β0 β
  fr : FR β s a
  sn : s.n = N
  sl : ∀ t, s.slot t = cur ops T D ops.size t
  df : DL β (T (mOf ops T D ops.size)).s.d a.defers
  hr : HR β (T (mOf ops T D ops.size)).s.H (XD P ops T b r0 X D (mOf ops T D ops.size)) base w
  bl : Below base w0 w

variable {β0 : Ren} {X : XF} {base : Nat} {w0 : World} {D : Nat → Bool} {a : Act} {w : World} {i : Nat}

/- the slots behind a step that put v -/
theorem slots_step (h : Rdy ops b D i) (ht : Tra P cl ops b r0 T N) {s : St} (hsn : s.n = N) (hsl : ∀ t, s.slot t = cur ops T D ops.size t) (hsf : ∀ t, N ≤ t → s.f.get t = none) {v : Value} {x : St}
    (hx : (T (i + 1)).s = x.put (ops[i]'h.hi).dst v) (hxn : x.n = N) (s2 : St) (h2n : s2.n = s.n) (h2f : s2.f = s.f) :
    ∀ t, (s2.put (ops[i]'h.hi).dst v).slot t = cur ops T (plus D i) ops.size t := by
  intro t
  have e2 : ∀ t, s2.slot t = s.slot t := fun t => by simp [St.slot, h2f]
  rw [h.plus t]
  split
  · rename_i hd
    rw [hx, hd, slot_put, slot_put, h2n, hsn, hxn]
    split
    · rfl
    · rename_i hN
      have h1 : s2.slot t = undef := by rw [e2]; simp [St.slot, hsf t (Nat.le_of_not_lt hN)]
      have h3 := (ht.n (i + 1) (by have := h.hi; omega)).2 t (Nat.le_of_not_lt hN)
      have h4 : x.f.get t = none := by
        rw [hx, hd] at h3
        simp only [St.put] at h3
        rw [if_neg (by rw [hxn]; exact hN)] at h3
        exact h3
      rw [h1]; simp [St.slot, h4]
  · rename_i hd
    rw [slot_put_ne _ _ _ _ hd, e2, hsl]

/- a step outside the chain that makes no block -/
theorem XD_same (hal : alB ops T i = false) (m : Nat) : XD P ops T b r0 X (plus D i) m = XD P ops T b r0 X D m := by
  funext id
  unfold XD
  by_cases e : id - r0 = i
  · simp [e, hal]
  · simp [plus, e]

end
end Go.Am
