/- The run of a drawing region in the text's order, state by state. Conditions: those of each theorem. -/
import Derived.Test.YthanhcpnhionaaaAmDrawA
set_option linter.all false
set_option linter.unusedSimpArgs false
set_option linter.unusedVariables false
namespace Go.Am
open Go.RowKit

section
variable {P : Program} {cl : Cl} {ops : Array Oper} {b : Array Nat} {r0 : Nat}

theorem runD_trace : ∀ (rest : List Oper) (i : Nat) (x y : DS), ops.toList.drop i = rest → runD P cl ops b r0 i rest x = some y →
    ∃ T : Nat → DS, T i = x ∧ T (i + rest.length) = y ∧ ∀ j o, i ≤ j → ops[j]? = some o → stepD P cl ops b r0 j o (T j) = some (T (j + 1))
  | [], i, x, y, hd, h => by
    simp only [runD, Option.some.injEq] at h
    refine ⟨fun _ => x, rfl, h, fun j o hj ho => ?_⟩
    have hl : ops.size ≤ i := by simpa using hd
    rw [Array.getElem?_eq_none (by omega)] at ho
    cases ho
  | o :: rest, i, x, y, hd, h => by
    simp only [runD] at h
    obtain ⟨x1, h1, h2⟩ := bind_some (x := stepD P cl ops b r0 i o x) h
    have hk : ops[i]? = some o := by
      have : (ops.toList.drop i)[0]? = some o := by rw [hd]; rfl
      simpa [List.getElem?_drop] using this
    have hd' : ops.toList.drop (i + 1) = rest := by rw [← List.drop_drop, hd]; rfl
    obtain ⟨T, t1, t2, t3⟩ := runD_trace rest (i + 1) x1 y hd' h2
    refine ⟨fun j => if j = i then x else T j, by simp, ?_, fun j o' hj ho => ?_⟩
    · simp only [List.length_cons]
      rw [if_neg (by omega)]
      rw [show i + (rest.length + 1) = i + 1 + rest.length by omega]
      exact t2
    · by_cases e : j = i
      · subst e
        rw [hk] at ho
        cases ho
        simp only [if_true]
        rw [if_neg (by omega), t1]
        exact h1
      · simp only [if_neg e]
        rw [if_neg (by omega)]
        exact t3 j o' (by omega) ho

/- what one step is -/
inductive StepK (P : Program) (cl : Cl) (ops : Array Oper) (b : Array Nat) (r0 i : Nat) (o : Oper) (x y : DS) : Prop
  | dis (hw : wantedA o ops x.s = false) (hy : y = { x with s := x.s.put o.dst undef })
  | qui (hw : wantedA o ops x.s = true) (hk : kdA o = .quiet) (v : Value) (H1 : Heap) (h : opA P o x.s.ev x.s.H = some (.val v, H1)) (hy : y = { x with s := x.s.put o.dst v })
  | all (hw : wantedA o ops x.s = true) (hk : kdA o = .alloc) (r : (Nat → Value) × Blk) (h : allocA P o.op x.s.ev = some r)
      (hy : y = { x with s := x.s.put o.dst (r.1 (r0 + i)), A := x.A ++ [(i, r.2)] })
  | rea (hw : wantedA o ops x.s = true) (hk : kdA o = .read) (v : Value) (h : readsA P r0 b x.A i o x.s x.s.H = some v) (hb : backA P r0 b x.A i o x.s v x.cs x.hist = true)
      (hy : y = { x with s := x.s.put o.dst v, rd := (i, o, x.s, v) :: x.rd })
  | cha (hw : wantedA o ops x.s = true) (hk : kdA o = .chain) (hcs : x.cs.all (ancA b i) = true) (s' : St)
      (h : doOp P cl o { x.s with H := layA r0 x.s.H (x.A.filter fun p => ancA b i p.1) } = some (.normal, s'))
      (hrd : (x.rd.all fun (k, ok, sk, v) => ancA b i k || (match readsA P r0 b (x.A.filter fun p => !ancA b i p.1) k ok sk s'.H with | some u => veq u v | none => false)) = true)
      (hy : y = { s := s', A := x.A.filter fun p => !ancA b i p.1, hist := x.s.H :: x.hist, cs := i :: x.cs, rd := x.rd })

theorem stepK {i : Nat} {o : Oper} {x y : DS} (h : stepD P cl ops b r0 i o x = some y) : StepK P cl ops b r0 i o x y := by
  unfold stepD at h
  split at h
  · rename_i hw
    split at h
    · rename_i hk
      obtain ⟨⟨r, H1⟩, hr, h1⟩ := bind_some h
      cases r with
      | val v => cases h1; exact .qui hw hk v H1 hr rfl
      | _ => cases h1
    · rename_i hk
      obtain ⟨r, hr, h1⟩ := bind_some h
      cases h1
      exact .all hw hk r hr rfl
    · rename_i hk
      obtain ⟨v, hv, h1⟩ := bind_some h
      split at h1
      · rename_i hb; cases h1; exact .rea hw hk v hv hb rfl
      · cases h1
    · rename_i hk
      split at h
      · rename_i hcs
        obtain ⟨⟨e, s'⟩, hs, h1⟩ := bind_some h
        cases e with
        | normal =>
          dsimp only at h1
          split at h1
          · rename_i hrd; cases h1; exact .cha hw hk hcs s' hs hrd rfl
          · cases h1
        | _ => cases h1
      · cases h
  · rename_i hw
    cases h
    exact .dis (by simpa using hw) rfl

theorem doOp_shape {o : Oper} {s s' : St} (h : doOp P cl o s = some (.normal, s')) :
    ∃ v H' d', s' = ({ s with H := H', d := d' } : St).put o.dst v ∧ ∀ s2 : St, (∀ x ∈ o.op.operands, s2.ev x = s.ev x) → s2.H = s.H → s2.d = s.d →
      doOp P cl o s2 = some (.normal, ({ s2 with H := H', d := d' } : St).put o.dst v) := by
  unfold doOp at h
  obtain ⟨⟨r, H⟩, hr, h1⟩ := bind_some h
  have hc : ∀ s2 : St, (∀ x ∈ o.op.operands, s2.ev x = s.ev x) → s2.H = s.H → opA P o s2.ev s2.H = some (r, H) := by
    intro s2 he hH
    rw [hH, opA_congr o s.H he, hr]
  cases r with
  | val v =>
    cases h1
    exact ⟨v, H, s.d, rfl, fun s2 he hH hd => by unfold doOp; rw [hc s2 he hH]; simp [← hd]⟩
  | dfr d =>
    cases h1
    exact ⟨undef, H, d :: s.d, rfl, fun s2 he hH hd => by unfold doOp; rw [hc s2 he hH]; simp [← hd]⟩
  | pan v => cases h1
  | call f args =>
    obtain ⟨⟨q, H2⟩, hq, h2⟩ := bind_some h1
    cases q with
    | ret v =>
      cases h2
      exact ⟨v, H2, s.d, rfl, fun s2 he hH hd => by unfold doOp; rw [hc s2 he hH]; simp [hq, ← hd]⟩
    | pan v => cases h2

@[simp] theorem slot_put_ne (s : St) (dst : Option Tmp) (v : Value) (t : Tmp) (h : dst ≠ some t) : (s.put dst v).slot t = s.slot t := by
  cases dst with
  | none => rfl
  | some d =>
    have hd : t ≠ d := fun e => h (by rw [e])
    simp only [St.put]
    split
    · simp [St.slot, Tr.get_put, hd]
    · rfl

theorem get_put_none (s : St) (dst : Option Tmp) (v : Value) (t : Nat) (ht : s.n ≤ t) (h : s.f.get t = none) : (s.put dst v).f.get t = none := by
  cases dst with
  | none => exact h
  | some d =>
    simp only [St.put]
    split
    · rename_i hd
      have hne : t ≠ d := by intro e; subst e; exact absurd hd (Nat.not_lt.2 ht)
      simp [Tr.get_put, hne, h]
    · exact h

/- a step's slots -/
theorem StepK.slots {i : Nat} {o : Oper} {x y : DS} (h : StepK P cl ops b r0 i o x y) :
    y.s.n = x.s.n ∧ (∀ t, x.s.n ≤ t → x.s.f.get t = none → y.s.f.get t = none) ∧ (∀ t, o.dst ≠ some t → y.s.slot t = x.s.slot t) := by
  cases h with
  | dis hw hy => subst hy; exact ⟨by simp, fun t ht hn => get_put_none _ _ _ t ht hn, fun t ht => slot_put_ne _ _ _ t ht⟩
  | qui hw hk v H1 h hy => subst hy; exact ⟨by simp, fun t ht hn => get_put_none _ _ _ t ht hn, fun t ht => slot_put_ne _ _ _ t ht⟩
  | all hw hk r h hy => subst hy; exact ⟨by simp, fun t ht hn => get_put_none _ _ _ t ht hn, fun t ht => slot_put_ne _ _ _ t ht⟩
  | rea hw hk v h hb hy => subst hy; exact ⟨by simp, fun t ht hn => get_put_none _ _ _ t ht hn, fun t ht => slot_put_ne _ _ _ t ht⟩
  | cha hw hk hcs s' h hrd hy =>
    subst hy
    obtain ⟨v, H', d', rfl, _⟩ := doOp_shape h
    exact ⟨by simp, fun t ht hn => get_put_none _ _ _ t ht hn, fun t ht => slot_put_ne _ _ _ t ht⟩

/- is operation i one of the chain, and done? one that makes a block? its block -/
def chB (ops : Array Oper) (T : Nat → DS) (i : Nat) : Bool := match ops[i]? with
  | some o => wantedA o ops (T i).s && (kdA o == .chain)
  | none => false
def alB (ops : Array Oper) (T : Nat → DS) (i : Nat) : Bool := match ops[i]? with
  | some o => wantedA o ops (T i).s && (kdA o == .alloc)
  | none => false
def blkO (P : Program) (ops : Array Oper) (T : Nat → DS) (i : Nat) : Option Blk := match ops[i]? with
  | some o => (allocA P o.op (T i).s.ev).map (·.2)
  | none => none

/- the last value of a slot by the operations of a set, of the first k -/
def cur (ops : Array Oper) (T : Nat → DS) (D : Nat → Bool) : Nat → Tmp → Value
  | 0, t => (T 0).s.slot t
  | i + 1, t => if D i = true ∧ (ops[i]?).bind (·.dst) = some t then (T (i + 1)).s.slot t else cur ops T D i t

/- behind the last one of the chain in a set, of the first k -/
def mOf (ops : Array Oper) (T : Nat → DS) (D : Nat → Bool) : Nat → Nat
  | 0 => 0
  | i + 1 => if D i = true ∧ chB ops T i = true then i + 1 else mOf ops T D i

structure Tra (P : Program) (cl : Cl) (ops : Array Oper) (b : Array Nat) (r0 : Nat) (T : Nat → DS) (N : Nat) : Prop where
  step : ∀ j o, ops[j]? = some o → StepK P cl ops b r0 j o (T j) (T (j + 1))
  n0 : (T 0).s.n = N
  f0 : ∀ t, N ≤ t → (T 0).s.f.get t = none
  A0 : (T 0).A = []
  h0 : (T 0).hist = []
  c0 : (T 0).cs = []
  d0 : (T 0).rd = []

variable {T : Nat → DS} {N : Nat}

theorem op_at {i : Nat} (hi : i < ops.size) : ops[i]? = some ops[i] := Array.getElem?_eq_getElem hi

theorem Tra.n (h : Tra P cl ops b r0 T N) : ∀ i, i ≤ ops.size → (T i).s.n = N ∧ ∀ t, N ≤ t → (T i).s.f.get t = none
  | 0, _ => ⟨h.n0, h.f0⟩
  | i + 1, hi => by
    obtain ⟨h1, h2⟩ := Tra.n h i (by omega)
    obtain ⟨k1, k2, _⟩ := (h.step i _ (op_at (by omega))).slots
    exact ⟨k1.trans h1, fun t ht => k2 t (by rw [h1]; exact ht) (h2 t ht)⟩

theorem Tra.cur (h : Tra P cl ops b r0 T N) : ∀ i, i ≤ ops.size → ∀ t, (T i).s.slot t = cur ops T (fun _ => true) i t
  | 0, _, t => rfl
  | i + 1, hi, t => by
    simp only [Am.cur, op_at (show i < ops.size by omega), Option.bind_some, true_and]
    split
    · rfl
    · rename_i hd
      rw [← Tra.cur h i (by omega) t]
      exact (h.step i _ (op_at (by omega))).slots.2.2 t hd

/- outside the chain the heap, the deferred calls, the chain's lists stay -/
theorem StepK.still {i : Nat} {o : Oper} {x y : DS} (h : StepK P cl ops b r0 i o x y) (hn : (wantedA o ops x.s && (kdA o == .chain)) = false) :
    y.s.H = x.s.H ∧ y.s.d = x.s.d ∧ y.cs = x.cs ∧ y.hist = x.hist := by
  cases h with
  | dis hw hy => subst hy; simp
  | qui hw hk v H1 h hy => subst hy; simp
  | all hw hk r h hy => subst hy; simp
  | rea hw hk v h hb hy => subst hy; simp
  | cha hw hk hcs s' h hrd hy => rw [hw, hk] at hn; simp at hn

theorem Tra.still (h : Tra P cl ops b r0 T N) {i : Nat} (hi : i < ops.size) (hn : chB ops T i = false) :
    (T (i + 1)).s.H = (T i).s.H ∧ (T (i + 1)).s.d = (T i).s.d ∧ (T (i + 1)).cs = (T i).cs ∧ (T (i + 1)).hist = (T i).hist := by
  refine (h.step i _ (op_at hi)).still ?_
  unfold chB at hn
  rw [op_at hi] at hn
  exact hn

theorem Tra.between (h : Tra P cl ops b r0 T N) {m : Nat} : ∀ d, m + d ≤ ops.size → (∀ c, m ≤ c → c < m + d → chB ops T c = false) →
    (T (m + d)).s.H = (T m).s.H ∧ (T (m + d)).s.d = (T m).s.d
  | 0, _, _ => ⟨rfl, rfl⟩
  | d + 1, hd, hn => by
    obtain ⟨h1, h2⟩ := Tra.between h d (by omega) (fun c a b => hn c a (by omega))
    obtain ⟨k1, k2, _⟩ := h.still (i := m + d) (by omega) (hn (m + d) (by omega) (by omega))
    exact ⟨k1.trans h1, k2.trans h2⟩

theorem mOf_le (D : Nat → Bool) : ∀ k, mOf ops T D k ≤ k
  | 0 => Nat.le_refl _
  | k + 1 => by
    simp only [mOf]
    split
    · exact Nat.le_refl _
    · exact Nat.le_succ_of_le (mOf_le D k)

theorem mOf_spec (D : Nat → Bool) : ∀ k, (mOf ops T D k = 0 ∨ ∃ j, j < k ∧ mOf ops T D k = j + 1 ∧ D j = true ∧ chB ops T j = true) ∧ ∀ c, c < k → D c = true → chB ops T c = true → c < mOf ops T D k
  | 0 => ⟨.inl rfl, fun c hc => by omega⟩
  | k + 1 => by
    obtain ⟨h1, h2⟩ := mOf_spec D k
    simp only [mOf]
    split
    · rename_i hk
      exact ⟨.inr ⟨k, by omega, rfl, hk.1, hk.2⟩, fun c hc _ _ => hc⟩
    · rename_i hk
      refine ⟨?_, fun c hc hD hch => ?_⟩
      · rcases h1 with h1 | ⟨j, a, b, c, d⟩
        · exact .inl h1
        · exact .inr ⟨j, by omega, b, c, d⟩
      · by_cases e : c = k
        · subst e; exact absurd ⟨hD, hch⟩ hk
        · exact h2 c (by omega) hD hch

/- no operation of the chain between 'mOf' and k -/
theorem mOf_none (D : Nat → Bool) (k c : Nat) (h1 : mOf ops T D k ≤ c) (h2 : c < k) (hD : D c = true) : chB ops T c = false := by
  cases h : chB ops T c with
  | false => rfl
  | true => have := (mOf_spec (ops := ops) (T := T) D k).2 c h2 hD h; omega

theorem Tra.atM (h : Tra P cl ops b r0 T N) {i : Nat} (hi : i ≤ ops.size) : (T i).s.H = (T (mOf ops T (fun _ => true) i)).s.H ∧ (T i).s.d = (T (mOf ops T (fun _ => true) i)).s.d := by
  have hle := mOf_le (ops := ops) (T := T) (fun _ => true) i
  have := h.between (m := mOf ops T (fun _ => true) i) (i - mOf ops T (fun _ => true) i) (by omega) (fun c a b => mOf_none _ i c a (by omega) rfl)
  rwa [show mOf ops T (fun _ => true) i + (i - mOf ops T (fun _ => true) i) = i by omega] at this

/- the chain's list -/
theorem Tra.mem_cs (h : Tra P cl ops b r0 T N) : ∀ i, i ≤ ops.size → ∀ c, c ∈ (T i).cs ↔ c < i ∧ chB ops T c = true
  | 0, _, c => by simp [h.c0]
  | i + 1, hi, c => by
    have ih := Tra.mem_cs h i (by omega) c
    cases hc : chB ops T i with
    | false =>
      rw [(h.still (by omega) hc).2.2.1, ih]
      constructor
      · rintro ⟨a, b⟩; exact ⟨by omega, b⟩
      · rintro ⟨a, b⟩
        by_cases e : c = i
        · subst e; rw [hc] at b; cases b
        · exact ⟨by omega, b⟩
    | true =>
      have hs := h.step i _ (op_at (by omega))
      have hcc := hc
      unfold chB at hcc
      rw [op_at (by omega)] at hcc
      simp only [Bool.and_eq_true, beq_iff_eq] at hcc
      cases hs with
      | dis hw hy => rw [hw] at hcc; cases hcc.1
      | qui hw hk => rw [hk] at hcc; cases hcc.2
      | all hw hk => rw [hk] at hcc; cases hcc.2
      | rea hw hk => rw [hk] at hcc; cases hcc.2
      | cha hw hk hcs s' h' hrd hy =>
        rw [hy]
        simp only [List.mem_cons, ih]
        constructor
        · rintro (rfl | ⟨a, b⟩)
          · exact ⟨by omega, hc⟩
          · exact ⟨by omega, b⟩
        · rintro ⟨a, b⟩
          by_cases e : c = i
          · exact .inl e
          · exact .inr ⟨by omega, b⟩

end
end Go.Am
