/- One operation of the world beside the abstract machine's. Conditions: those of each theorem. -/
import Derived.Test.YthanhcpnhionaaaAmOps3
import Derived.Test.YthanhcpnhionaaaAmApp
set_option linter.all false
set_option linter.unusedSimpArgs false
set_option linter.unusedVariables false
namespace Go.Am
open Go.RowKit

section
variable {P : Program} {β : Ren} {H : Heap} {X : XF} {base : Nat} {w : World}

theorem mapM_rel {ev : Operand → Option Value} {ρ : Operand → Value} (hE : ∀ x v, ev x = some v → VR β v (ρ x)) : ∀ (xs : List Operand) (vs : List Value), xs.mapM ev = some vs → LR β vs (xs.map ρ)
  | [], vs, h => by simp at h; subst h; exact .nil β
  | x :: xs, vs, h => by
    rw [List.mapM_cons] at h
    obtain ⟨v, hv, h1⟩ := bind_some h
    obtain ⟨rest, hr, h2⟩ := bind_some h1
    cases h2
    exact .cons (hE x v hv) (mapM_rel hE xs rest hr)

theorem parts_rel {ev : Operand → Option Value} {ρ : Operand → Value} (hE : ∀ x v, ev x = some v → VR β v (ρ x)) : ∀ (xs : List (Nat × Operand)) (ps : List (Nat × Value)),
    (xs.mapM fun (p : Nat × Operand) => (ev p.2).map (p.1, ·)) = some ps → PR β ps (xs.map fun p => (p.1, ρ p.2))
  | [], ps, h => by simp at h; subst h; exact .nil
  | x :: xs, ps, h => by
    rw [List.mapM_cons] at h
    obtain ⟨v, hv, h1⟩ := bind_some h
    obtain ⟨rest, hr, h2⟩ := bind_some h1
    cases h2
    obtain ⟨u, hu, rfl⟩ := map_some hv
    exact .cons x.1 (hE x.2 u hu) (parts_rel hE xs rest hr)

theorem opt_rel {ev : Operand → Option Value} {ρ : Operand → Value} (hE : ∀ x v, ev x = some v → VR β v (ρ x)) {x : Option Operand} {v : Option Value} (h : x.mapM ev = some v) : OR β v (x.map ρ) := by
  cases x with
  | none => simp at h; subst h; exact trivial
  | some x =>
    have h' : (ev x).map some = some v := by simpa [Option.mapM] using h
    obtain ⟨u, hu, rfl⟩ := map_some h'
    exact hE x u hu

/- a deferred call -/
def DR (β : Ren) (d d' : Deferred) : Prop := ∃ f c c', d.target = .fn (.func f) c ∧ d'.target = .fn (.func f) c' ∧ LR β c.toList c'.toList ∧ LR β d.args.toList d'.args.toList

theorem DR.mono {β β' : Ren} {d d' : Deferred} (h : DR β d d') (k : Le β β') : DR β' d d' := by
  obtain ⟨f, c, c', h1, h2, h3, h4⟩ := h
  exact ⟨f, c, c', h1, h2, h3.mono k, h4.mono k⟩

/- where a new block may go -/
structure New (β : Ren) (H H' : Heap) (X X' : XF) (i : Nat) (x : Blk) : Prop where
  hi : base0 ≤ i
  hu : β i = .un
  hl : i < H'.next
  hn : H.next ≤ H'.next
  hg : ∀ j, getX H' X' j = if j = i then some x else getX H X j
  hd : ∀ j q, X' j = some q → H'.get j = none ∧ j < H'.next
  hres : ∀ j, X' j = some none → j ≠ i ∧ X j = some none

/- a new block -/
theorem alloc_sound (hr : HR β H X base w) (i : Nat) (H' : Heap) (X' : XF) (x : Blk) (hnew : New β H H' X X' i x) (C : Array Value) (ty : TypeId) (hc : LR β x.cells C.toList) :
    ∃ β', β' i = .live ⟨w.heap.size, 0, x.cells.length, x.cells.length, x.es, x.opn⟩ ∧ Le β β' ∧ HR β' H' X' base (w.alloc (.cells C ty)) ∧ Below base w (w.alloc (.cells C ty)) := by
  have hsz : C.size = x.cells.length := by have := hc.1; simpa using this.symm
  have ha := hr.add (H' := H') (X' := X') i x C ty hnew.hi hnew.hu hnew.hl hnew.hn hnew.hg hnew.hd hnew.hres (by omega) (by
    have e : C.toList.take x.cells.length = C.toList := List.take_of_length_le (by simp; omega)
    rw [e]; exact hc)
  rw [hsz] at ha
  exact ⟨_, upd_self _ _ _, ha.1, ha.2, (Below.refl base w).alloc hr.sz _⟩

theorem AR.fresh {β : Ren} {i b n m es : Nat} {o : Bool} (h : β i = .live ⟨b, 0, n, m, es, o⟩) : AR β ⟨i, 0, none⟩ ⟨b, 0, none⟩ := by
  refine ⟨rfl, ?_, fun T hT => ?_⟩
  · show β i ≠ .un
    rw [h]; intro q; cases q
  · have hT' : β i = .live T := hT
    rw [h] at hT'; cases hT'; rfl

/- the world's step for an operation that makes one block, whatever number the abstract machine gives it -/
theorem allocA_sound {o : Oper} {a : Act} {ev : Operand → Option Value} (hE : ∀ x v, ev x = some v → VR β v (a.eval x)) (hr : HR β H X base w)
    {r : (Nat → Value) × Blk} (h : allocA P o.op ev = some r) (i : Nat) (H' : Heap) (X' : XF) (hnew : New β H H' X X' i r.2) :
    ∃ β' v' w', (execOp a.eval o).run P w = .ok (.value v') w' ∧ Le β β' ∧ VR β' (r.1 i) v' ∧ HR β' H' X' base w' ∧ Below base w w' := by
  unfold allocA at h
  cases ho : o.op with
  | alloc t =>
    rw [ho] at h
    obtain ⟨z, hz, h1⟩ := bind_some h
    cases h1
    obtain ⟨rz, pz⟩ := run_zeroValue hz w
    obtain ⟨β', e1, e3, e4, e5⟩ := alloc_sound hr i H' X' _ hnew z.cells t (VR.plain pz).cells
    refine ⟨β', .pointer (some ⟨w.heap.size, 0, none⟩), _, ?_, e3, .ptr (.fresh e1), e4, e5⟩
    simp [execOp, ho, Instr.alloc, rz, newVar, newRow]
  | box t x =>
    rw [ho] at h
    obtain ⟨v, hv, h1⟩ := bind_some h
    cases h1
    have hvr := hE x v hv
    obtain ⟨β', e1, e3, e4, e5⟩ := alloc_sound hr i H' X' _ hnew (a.eval x).cells t hvr.cells
    refine ⟨β', .pointer (some ⟨w.heap.size, 0, none⟩), _, ?_, e3, .ptr (.fresh e1), e4, e5⟩
    simp [execOp, ho, Instr.box, newVar, newRow]
  | buildSlice t n parts =>
    rw [ho] at h
    obtain ⟨ps, hps, h1⟩ := bind_some h
    have hpr := parts_rel hE parts.toList ps hps
    unfold buildSliceA at h1
    obtain ⟨d, hd, h2⟩ := bind_some h1
    cases d with
    | slice elem =>
      obtain ⟨size, hs, h3⟩ := bind_some h2
      split at h3
      · cases h3
      rename_i hlim
      obtain ⟨z, hz, h4⟩ := bind_some h3
      dsimp only at h4
      split at h4
      · cases h4
      rename_i hzs
      obtain ⟨cells, hc, h5⟩ := bind_some h4
      cases h5
      have hzs' : z.cells.size = size := by simpa using hzs
      have hlim' : size ≠ 0 ∧ n * size ≤ 2 ^ 24 := by
        simp only [Bool.or_eq_true, not_or, decide_eq_true_eq] at hlim
        omega
      obtain ⟨rz, pz⟩ := run_zeroValue hz w
      obtain ⟨ie, hie, rfl⟩ := map_some hs
      have hiz : ie.zero = some z := by
        unfold zeroA at hz
        obtain ⟨z', hz', k⟩ := bind_some hz
        rw [hie] at hz'
        split at k
        · cases k; exact hz'
        · cases k
      have hmany : LR β (manyA z.cells.toList n).toArray.toList (manyA z.cells.toList n).toArray.toList := by simpa using LR.many (VR.plain pz).cells n
      obtain ⟨cells', hc', rc⟩ := fill_rel _ _ _ _ _ _ hpr hmany hc
      obtain ⟨β', e1, e3, e4, e5⟩ := alloc_sound hr i H' X' _ hnew cells' elem rc
      refine ⟨β', .slice (some ⟨w.heap.size, 0, none⟩) n n, _, ?_, e3, .sl _ _ ?_ (Nat.le_refl _) (.inr (.fresh e1)), e4, e5⟩
      · by_cases hn0 : n = 0
        · subst hn0
          have hp0 : (parts.map fun (p : Nat × Operand) => (p.1, a.eval p.2)).toList = parts.toList.map fun p => (p.1, a.eval p.2) := by simp
          have hc0 : Instr.fill (fun i => some (i * ie.size, ie.size)) #[] (parts.toList.map fun p => (p.1, a.eval p.2)) = some cells' := by simpa [manyA] using hc'
          simp [execOp, ho, Instr.buildSlice, run_underlying hd, sizeOf, run_typeInfo hie, hc0, newRow, Array.range_zero']
        · have hpos : ¬ n * ie.size = 0 := by
            intro e
            rcases Nat.mul_eq_zero.1 e with k | k
            · exact hn0 k
            · exact hlim'.1 k
          have hm : ((Array.range (n * ie.size)).map (z.cells[· % z.cells.size]!)) = (manyA z.cells.toList n).toArray := by
            apply Array.ext'
            rw [← hzs', many_eq]
          have hrun := run_buildSlice (P := P) w t elem n (parts.map fun (p : Nat × Operand) => (p.1, a.eval p.2)) cells' ie z hd hie hiz (by omega) hpos (by rw [hm]; simpa using hc')
          simp only [execOp, ho, Sem.run_bind, hrun, Result.andThen_ok, Sem.run_pure]
      · have : n ≤ n * ie.size := Nat.le_mul_of_pos_right n (by omega)
        have : (2 : Nat) ^ 24 < openCap := by decide
        omega
    | _ => cases h2
  | makeSlice t l c =>
    rw [ho] at h
    obtain ⟨vl, hvl, h1⟩ := bind_some h
    obtain ⟨vc, hvc, h2⟩ := bind_some h1
    have rl := hE l vl hvl
    have rc := hE c vc hvc
    unfold makeSliceA at h2
    obtain ⟨d, hd, h3⟩ := bind_some h2
    split at h3
    case h_2 => cases h3
    rename_i elem li ci
    obtain ⟨ie, hie, h4⟩ := bind_some h3
    split at h4
    case isFalse => cases h4
    rename_i hb
    obtain ⟨z, hz, h5⟩ := bind_some h4
    dsimp only at h5
    split at h5
    · cases h5
    rename_i hzs
    cases h5
    have hzs' : z.cells.size = ie.size := by simpa using hzs
    obtain ⟨b1, b2, b3, b4, b5⟩ := hb
    generalize hle : a.eval l = l' at rl
    generalize hce : a.eval c = c' at rc
    cases rl
    cases rc
    obtain ⟨rz, pz⟩ := run_zeroValue hz w
    have hs' : szA P elem = some ie.size := by simp [szA, hie]
    have hC : LR β (manyA z.cells.toList ci.toNat) ((manyA z.cells.toList ci.toNat).toArray).toList := by simpa using LR.many (VR.plain pz).cells ci.toNat
    obtain ⟨β', e1, e3, e4, e5⟩ := alloc_sound hr i H' X' _ hnew _ elem hC
    refine ⟨β', .slice (some ⟨w.heap.size, 0, none⟩) li.toNat ci.toNat, _, ?_, e3, .sl _ _ ?_ (by omega) (.inr (.fresh e1)), e4, e5⟩
    · have w1 : IntKind.i64.wrap li = li := IntWalk.i64_in _ (by omega)
      have w2 : IntKind.i64.wrap ci = ci := IntWalk.i64_in _ (by omega)
      have hbb : (ie.bytes : Int) * ci ≤ 2 ^ 48 := by rw [Int.mul_comm]; omega
      have hbl : (ie.bytes : Int) * li ≤ 2 ^ 48 := by
        have : (ie.bytes : Int) * li ≤ ie.bytes * ci := Int.mul_le_mul_of_nonneg_left b2 (by omega)
        omega
      have hm : ((Array.range (ci.toNat * ie.size)).map (z.cells[· % z.cells.size]!)) = (manyA z.cells.toList ci.toNat).toArray := by
        apply Array.ext'
        rw [← hzs', many_eq]
      have c1 : ¬ ci < 0 := by omega
      have c2 : ¬ (2 ^ 48 < (ie.bytes : Int) * ci) := by omega
      have c3 : ¬ li < 0 := by omega
      have c4 : ¬ ci < li := by omega
      simp only [execOp, ho, hle, hce, Instr.makeSlice, Sem.run_bind, run_underlying hd, Result.andThen_ok, asInt, asIntOf, Sem.run_pure, run_typeInfo hie, w1, w2, c1, c2, c3, c4, gt_iff_lt,
        decide_false, Bool.or_self, Bool.false_eq_true, if_false, run_askRoom, run_sizeOf hs']
      by_cases hn0 : ci.toNat * ie.size = 0
      · have hc0 : ci.toNat = 0 := by
          rcases Nat.mul_eq_zero.1 hn0 with k | k
          · exact k
          · exact absurd k b5
        simp [hc0, manyA, newRow, Array.range_zero']
      · simp only [hn0, if_false, rz, Result.andThen_ok, newRow, Sem.run_bind, run_newObj, Sem.run_pure, hm]
        rfl
    · have : (2 : Nat) ^ 47 < openCap := by decide
      omega
  | _ => rw [ho] at h; cases h

/- the slots of an activation -/
def FR (β : Ren) (s : St) (a : Act) : Prop :=
  a.tmps.size = s.n ∧ (∀ t, t < s.n → ∃ v', a.tmps[t]? = some v' ∧ VR β (s.slot t) v') ∧ (∀ t, s.n ≤ t → s.f.get t = none)

theorem FR.mono {β β' : Ren} {s : St} {a : Act} (h : FR β s a) (k : Le β β') : FR β' s a :=
  ⟨h.1, fun t ht => by obtain ⟨v', e, r⟩ := h.2.1 t ht; exact ⟨v', e, r.mono k⟩, h.2.2⟩

theorem VR.undef (β : Ren) : VR β undef undef := .tuple rfl fun i u u' h => by simp at h

theorem FR.ev {s : St} {a : Act} (h : FR β s a) : ∀ x v, s.ev x = some v → VR β v (a.eval x) := by
  intro x v hx
  cases x with
  | tmp t =>
    cases hx
    by_cases ht : t < s.n
    · obtain ⟨v', e, r⟩ := h.2.1 t ht
      simpa [Act.eval, e] using r
    · have e1 : s.slot t = undef := by simp [St.slot, h.2.2 t (Nat.le_of_not_lt ht)]
      have e2 : a.eval (.tmp t) = undef := by
        have : a.tmps[t]? = none := Array.getElem?_eq_none (by rw [h.1]; exact Nat.le_of_not_lt ht)
        simp [Act.eval, this]
      rw [e1, e2]
      exact .undef β
  | const c =>
    have hx' : (if plainV c then some c else none) = some v := hx
    split at hx'
    · rename_i hp; cases hx'; exact .plain hp
    · cases hx'
  | global g => cases hx
  | func f => cases hx; exact .func _ rfl rfl (fun i u u' hu => by simp at hu) (fun i u u' hu => by simp at hu)

end
end Go.Am
