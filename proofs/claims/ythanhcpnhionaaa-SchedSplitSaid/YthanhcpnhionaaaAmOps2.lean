/- The world's runs of slices, comparisons, conversions, interface values beside the abstract machine's. Conditions: those of each theorem. -/
import Derived.Test.YthanhcpnhionaaaAmOps
set_option linter.all false
set_option linter.unusedSimpArgs false
set_option linter.unusedVariables false
namespace Go.Am
open Go.RowKit

section
variable {P : Program} {β : Ren} {H : Heap} {X : XF} {base : Nat} {w : World}

/- options of values -/
def OR (β : Ren) : Option Value → Option Value → Prop
  | none, none => True
  | some v, some v' => VR β v v'
  | _, _ => False

theorem boundA_some {x : Value} {d y n : Nat} (h : boundA (some x) d y = some n) : ∃ k i, x = .int k i ∧ 0 ≤ i ∧ i ≤ (y : Int) ∧ n = i.toNat := by
  unfold boundA at h
  cases x with
  | int k i =>
    simp only at h
    split at h
    · rename_i hi; cases h; exact ⟨k, i, rfl, hi.1, hi.2, rfl⟩
    · cases h
  | _ => cases h

theorem OR.bound {x x' : Option Value} (hx : OR β x x') {d y n : Nat} (h : boundA x d y = some n) :
    (x = none ∧ x' = none ∧ n = d) ∨ ∃ k i, x = some (.int k i) ∧ x' = some (.int k i) ∧ 0 ≤ i ∧ i ≤ (y : Int) ∧ n = i.toNat := by
  cases x with
  | none =>
    cases x' with
    | none => left; simp [boundA] at h; exact ⟨rfl, rfl, h.symm⟩
    | some v => cases hx
  | some v =>
    cases x' with
    | none => cases hx
    | some v' =>
      obtain ⟨k, i, rfl, h0, h1, h2⟩ := boundA_some h
      have hv : VR β (.int k i) v' := hx
      cases hv
      exact .inr ⟨k, i, rfl, rfl, h0, h1, h2⟩

/- the bounds: 'cap' the world's capacity, 'm0' what the abstract machine holds for it: at most it; the same where 'max' is given -/
theorem run_bounds {isSlice : Bool} {len cap m0 m h l : Nat} {lo hi mx lo' hi' mx' : Option Value} (hlo : OR β lo lo') (hhi : OR β hi hi') (hmx : OR β mx mx')
    (hm : boundA mx m0 m0 = some m) (hh : boundA hi len m = some h) (hl : boundA lo 0 h = some l) (hc : m0 ≤ cap) (hg : mx.isSome = true → hi.isSome = true) (w : World) :
    (Instr.sliceBounds isSlice len cap lo' hi' mx').run P w = .ok (l, h, if mx.isSome then m else cap) w := by
  rcases hmx.bound hm with ⟨rfl, rfl, rfl⟩ | ⟨km, im, rfl, rfl, m1, m2, rfl⟩
  · rcases hhi.bound hh with ⟨rfl, rfl, rfl⟩ | ⟨kh, ih, rfl, rfl, a1, a2, rfl⟩
    · rcases hlo.bound hl with ⟨rfl, rfl, rfl⟩ | ⟨kl, il, rfl, rfl, b1, b2, rfl⟩
      · simp [Instr.sliceBounds]
      · simp [Instr.sliceBounds, run_sliceBound w kl il _ _ b1 b2]
    · rcases hlo.bound hl with ⟨rfl, rfl, rfl⟩ | ⟨kl, il, rfl, rfl, b1, b2, rfl⟩
      · simp [Instr.sliceBounds, run_sliceBound w kh ih cap _ a1 (by omega)]
      · simp [Instr.sliceBounds, run_sliceBound w kh ih cap _ a1 (by omega), run_sliceBound w kl il _ _ b1 b2]
  · rcases hhi.bound hh with ⟨rfl, rfl, rfl⟩ | ⟨kh, ih, rfl, rfl, a1, a2, rfl⟩
    · simp at hg
    · rcases hlo.bound hl with ⟨rfl, rfl, rfl⟩ | ⟨kl, il, rfl, rfl, b1, b2, rfl⟩
      · simp [Instr.sliceBounds, run_sliceBound w km im cap _ m1 (by omega), run_sliceBound w kh ih _ _ a1 a2]
      · simp [Instr.sliceBounds, run_sliceBound w km im cap _ m1 (by omega), run_sliceBound w kh ih _ _ a1 a2, run_sliceBound w kl il _ _ b1 b2]

theorem boundA_le {x : Option Value} {d y n : Nat} (h : boundA x d y = some n) : n ≤ y ∨ (x = none ∧ n = d) := by
  cases x with
  | none => right; simp [boundA] at h; exact ⟨rfl, h.symm⟩
  | some v => obtain ⟨k, i, _, h0, h1, rfl⟩ := boundA_some h; left; omega

/- the sliced value of an exact capacity -/
theorem VR.sliced {a a' : Addr} {cap m h l size : Nat} (hc : cap < openCap) (hm : m ≤ cap) (hh : h ≤ m) (ha : cap = 0 ∨ AR β a a') :
    VR β (.slice (some ⟨a.block, a.off + l * size, none⟩) (h - l) (m - l)) (.slice (some (if m = l then a' else a'.add (l * size))) (h - l) (m - l)) := by
  refine .sl _ _ (by omega) (by omega) ?_
  by_cases e : m - l = 0
  · exact .inl e
  · right
    rw [if_neg (by omega)]
    have ha' := ha.resolve_left (by omega)
    exact ⟨rfl, ha'.2.1, fun T hT => by rw [ha'.2.2 T hT, Addr.add_lit, Nat.add_assoc]⟩

theorem run_sliceA (hr : HR β H X base w) {t : TypeId} {v v' u : Value} {lo hi mx lo' hi' mx' : Option Value} (h : sliceA P H t v lo hi mx = some u) (hv : VR β v v')
    (hlo : OR β lo lo') (hhi : OR β hi hi') (hmx : OR β mx mx') : ∃ u', (Instr.sliceAt t v' lo' hi' mx').run P w = .ok u' w ∧ VR β u u' := by
  unfold sliceA at h
  obtain ⟨d, hd, h1⟩ := bind_some h
  cases d with
  | string =>
    cases hv with
    | string s =>
      simp only at h1
      split at h1
      · cases h1
      rename_i hmx0
      have : mx = none := by cases mx <;> simp_all
      subst this
      cases mx' with
      | some _ => cases hmx
      | none =>
        obtain ⟨hh, e1, h2⟩ := bind_some h1
        obtain ⟨ll, e2, h3⟩ := bind_some h2
        cases h3
        have hb := run_bounds (P := P) (isSlice := false) (m0 := s.size) (cap := s.size) (m := s.size) hlo hhi hmx (by simp [boundA]) e1 e2 (Nat.le_refl _) (by simp) w
        exact ⟨_, by simp [Instr.sliceAt, run_underlying hd, Instr.slice, hb], .string _⟩
    | _ => cases h1
  | slice elem =>
    cases v with
    | slice a len cap =>
      obtain ⟨size, hs, h2⟩ := bind_some h1
      split at h2
      · -- an open one
        rename_i hopen
        subst hopen
        cases a with
        | none => cases h2
        | some a =>
          simp only at h2
          split at h2
          · cases h2
          rename_i hsp
          obtain ⟨x, hx, h3⟩ := bind_some h2
          split at h3
          · cases h3
          rename_i hes
          obtain ⟨T, hT, hB, _⟩ := hr.mem hx
          have hsz0 : size ≠ 0 := by intro e; subst e; simp at hsp
          have hes' : x.es = size := by simpa using hes
          have hTes : T.es = size := by rw [hB.es, hes']
          have hTn := hB.n
          have hTle := hB.le
          cases hv with
          | sl l c hc hl ha => exact absurd hc (Nat.lt_irrefl _)
          | op l c hl hs0 hu ha =>
            rename_i a'
            obtain ⟨ho, hcap, hadr⟩ := ha T hT
            rw [hTes] at hcap
            have hmost : (x.cells.length - a.off) / size ≤ c := by
              have : x.cells.length - a.off ≤ c * size := by omega
              calc (x.cells.length - a.off) / size ≤ (c * size) / size := Nat.div_le_div_right this
                _ = c := Nat.mul_div_cancel _ (by omega)
            cases mx with
            | none =>
              cases mx' with
              | some _ => cases hmx
              | none =>
                obtain ⟨hh, e1, h4⟩ := bind_some h3
                obtain ⟨ll, e2, h5⟩ := bind_some h4
                cases h5
                have hb := run_bounds (P := P) (isSlice := true) (m0 := (x.cells.length - a.off) / size) (cap := c) (m := (x.cells.length - a.off) / size) hlo hhi hmx (by simp [boundA]) e1 e2 hmost (by simp) w
                have hhc : hh ≤ c := by rcases boundA_le e1 with k | ⟨_, k⟩ <;> omega
                have hlc : ll ≤ hh := by rcases boundA_le e2 with k | ⟨_, k⟩ <;> omega
                refine ⟨.slice (some (if c = ll then a' else a'.add (ll * size))) (hh - ll) (c - ll), ?_, .op _ _ (by omega) rfl hu fun U hU => ?_⟩
                · simp only [Instr.sliceAt, Sem.run_bind, run_underlying hd, Result.andThen_ok, Instr.slice, hb, run_sizeOf hs, Sem.run_pure, Option.isSome_none, Bool.false_eq_true, if_false]
                  congr 2
                  split <;> rfl
                rw [hT] at hU
                cases hU
                refine ⟨ho, ?_, ?_⟩
                · rw [hTes, ← hcap]
                  have : (c - ll) * size + ll * size = c * size := by rw [← Nat.add_mul]; congr 1; omega
                  simp only
                  omega
                · by_cases e : c = ll
                  · left; omega
                  · right
                    rw [if_neg e, hadr.resolve_left (by omega), Addr.add_lit, Nat.add_assoc]
            | some mv =>
              simp only at h3
              split at h3
              · cases h3
              rename_i hhs
              obtain ⟨m, e0, h4⟩ := bind_some h3
              obtain ⟨hh, e1, h5⟩ := bind_some h4
              obtain ⟨ll, e2, h6⟩ := bind_some h5
              split at h6
              case isFalse => cases h6
              rename_i hmo
              cases h6
              have hb := run_bounds (P := P) (isSlice := true) (cap := c) hlo hhi hmx e0 e1 e2 hmost (by intro _; cases hi <;> simp_all) w
              have hmm : m ≤ (x.cells.length - a.off) / size := by rcases boundA_le e0 with k | ⟨k, _⟩; exact k; cases k
              have hhm : hh ≤ m := by
                rcases boundA_le e1 with k | ⟨k, _⟩
                · exact k
                · subst k; simp at hhs
              refine ⟨.slice (some (if m = ll then a' else a'.add (ll * size))) (hh - ll) (m - ll), ?_, ?_⟩
              · simp only [Instr.sliceAt, Sem.run_bind, run_underlying hd, Result.andThen_ok, Instr.slice, hb, run_sizeOf hs, Sem.run_pure, Option.isSome_some, if_true]
                congr 2
                split <;> rfl
              refine .sl _ _ (by omega) (by omega) ?_
              by_cases e : m - ll = 0
              · exact .inl e
              · right
                rw [if_neg (by omega)]
                refine ⟨rfl, hu, fun U hU => ?_⟩
                rw [hT] at hU
                cases hU
                rw [hadr.resolve_left (by omega), Addr.add_lit, Nat.add_assoc]
      · rename_i hopen
        split at h2
        · cases h2
        rename_i hg0
        obtain ⟨m, e0, h3⟩ := bind_some h2
        obtain ⟨hh, e1, h4⟩ := bind_some h3
        obtain ⟨ll, e2, h5⟩ := bind_some h4
        have hg : mx.isSome = true → hi.isSome = true := by cases mx <;> cases hi <;> simp_all
        have hif : (if mx.isSome = true then m else cap) = m := by
          cases mx with
          | none => simp [boundA] at e0; simp [e0]
          | some _ => simp
        have hmc : m ≤ cap := by rcases boundA_le e0 with k | ⟨_, k⟩ <;> omega
        cases a with
        | none =>
          cases h5
          cases hv with
          | nils l c hc =>
            have hb := run_bounds (P := P) (isSlice := true) (cap := cap) hlo hhi hmx e0 e1 e2 (Nat.le_refl _) hg w
            rw [hif] at hb
            refine ⟨.slice none (hh - ll) (m - ll), ?_, .nils _ _ (by omega)⟩
            simp only [Instr.sliceAt, Sem.run_bind, run_underlying hd, Result.andThen_ok, Instr.slice, hb, run_sizeOf hs, Sem.run_pure]
            congr 2
            split <;> rfl
        | some a =>
          simp only at h5
          split at h5
          · cases h5
          cases h5
          cases hv with
          | op l c hl hs0 hu ha => exact absurd rfl hopen
          | sl l c hc hl ha =>
            rename_i a'
            have hb := run_bounds (P := P) (isSlice := true) (cap := cap) hlo hhi hmx e0 e1 e2 (Nat.le_refl _) hg w
            rw [hif] at hb
            have hhm : hh ≤ m := by
              rcases boundA_le e1 with k | ⟨k, k2⟩
              · exact k
              · subst k
                have : mx = none := by cases mx <;> simp_all
                subst this
                simp [boundA] at e0
                omega
            refine ⟨_, ?_, VR.sliced hc hmc hhm ha⟩
            simp only [Instr.sliceAt, Sem.run_bind, run_underlying hd, Result.andThen_ok, Instr.slice, hb, run_sizeOf hs, Sem.run_pure]
            congr 2
            split <;> rfl
    | _ => cases h1
  | array n elem =>
    cases hv with
    | ptr ha =>
      rename_i a a'
      simp only at h1
      split at h1
      · cases h1
      rename_i hn
      split at h1
      · cases h1
      rename_i hg0
      obtain ⟨m, e0, h3⟩ := bind_some h1
      obtain ⟨hh, e1, h4⟩ := bind_some h3
      obtain ⟨ll, e2, h5⟩ := bind_some h4
      obtain ⟨size, hs, h6⟩ := bind_some h5
      cases h6
      have hg : mx.isSome = true → hi.isSome = true := by cases mx <;> cases hi <;> simp_all
      have hif : (if mx.isSome = true then m else n) = m := by
        cases mx with
        | none => simp [boundA] at e0; simp [e0]
        | some _ => simp
      have hmc : m ≤ n := by rcases boundA_le e0 with k | ⟨_, k⟩ <;> omega
      have hno : n < openCap := by
        simp only [Bool.or_eq_true, not_or, decide_eq_true_eq] at hn
        omega
      have hb := run_bounds (P := P) (isSlice := false) (cap := n) hlo hhi hmx e0 e1 e2 (Nat.le_refl _) hg w
      rw [hif] at hb
      have hhm : hh ≤ m := by
        rcases boundA_le e1 with k | ⟨k, k2⟩
        · exact k
        · subst k
          have : mx = none := by cases mx <;> simp_all
          subst this
          simp [boundA] at e0
          omega
      refine ⟨_, ?_, VR.sliced hno hmc hhm (.inr ha)⟩
      simp only [Instr.sliceAt, Sem.run_bind, run_underlying hd, Result.andThen_ok, Instr.sureAddr, hb, run_sizeOf hs, Sem.run_pure]
    | _ => cases h1
  | pointer arr =>
    cases hv with
    | ptr ha =>
      rename_i a a'
      obtain ⟨d2, hd2, h2⟩ := bind_some h1
      cases d2 with
      | array n elem =>
        simp only at h2
        split at h2
        · cases h2
        rename_i hn
        split at h2
        · cases h2
        rename_i hg0
        obtain ⟨m, e0, h3⟩ := bind_some h2
        obtain ⟨hh, e1, h4⟩ := bind_some h3
        obtain ⟨ll, e2, h5⟩ := bind_some h4
        obtain ⟨size, hs, h6⟩ := bind_some h5
        cases h6
        have hg : mx.isSome = true → hi.isSome = true := by cases mx <;> cases hi <;> simp_all
        have hif : (if mx.isSome = true then m else n) = m := by
          cases mx with
          | none => simp [boundA] at e0; simp [e0]
          | some _ => simp
        have hmc : m ≤ n := by rcases boundA_le e0 with k | ⟨_, k⟩ <;> omega
        have hno : n < openCap := by
          simp only [Bool.or_eq_true, not_or, decide_eq_true_eq] at hn
          omega
        have hb := run_bounds (P := P) (isSlice := false) (cap := n) hlo hhi hmx e0 e1 e2 (Nat.le_refl _) hg w
        rw [hif] at hb
        have hhm : hh ≤ m := by
          rcases boundA_le e1 with k | ⟨k, k2⟩
          · exact k
          · subst k
            have : mx = none := by cases mx <;> simp_all
            subst this
            simp [boundA] at e0
            omega
        refine ⟨_, ?_, VR.sliced hno hmc hhm (.inr ha)⟩
        simp only [Instr.sliceAt, Sem.run_bind, run_underlying hd, Result.andThen_ok, Instr.slice, asAddr, run_underlying hd2, hb, run_sizeOf hs, Sem.run_pure]
      | _ => cases h2
    | _ => cases h1
  | _ => cases h1

end
end Go.Am
