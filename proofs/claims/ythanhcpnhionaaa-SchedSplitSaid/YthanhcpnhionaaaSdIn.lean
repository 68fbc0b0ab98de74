/- Arguments that are slices of integers, as the abstract machine has them; the first call of each law. Conditions: those of each theorem. -/
import Derived.Test.YthanhcpnhionaaaAmLink
import Derived.Test.YthanhcpnhionaaaSdO
set_option linter.all false
set_option linter.unusedSimpArgs false
set_option linter.unusedVariables false
namespace Go.Am.T
open Go Go.Am Go.Proofs.Ythanhcpnhionaaa Go.Proofs Go.RowKit Go.ChangeShapes

structure InInt (W : World) (v : Value) (o : Option Ent) (i : Nat) (pv : Value) (zs : List Int) : Prop where
  ok : ∀ e, o = some e → ∀ L, EntOk W (inB L) e
  vr : ∀ L : InL, L[i]? = some o → VR (inB L) pv v
  rd : ∀ L : InL, L.length ≤ base0 → L[i]? = some o → RdI (inH L) pv (zs.map iv)
  wf : ∀ z ∈ zs, -9223372036854775808 ≤ z ∧ z ≤ 9223372036854775807
  sl : ∃ a c, pv = .slice a zs.length c ∧ zs.length ≤ c ∧ c < openCap

theorem LR_ints {β : Ren} (zs : List Int) : LR β (zs.map iv) (zs.map iv) := by
  refine ⟨rfl, fun i u u' hu hu' => ?_⟩
  rw [hu] at hu'; cases hu'
  rw [List.getElem?_map] at hu
  cases hz : zs[i]? with
  | none => rw [hz] at hu; cases hu
  | some z => rw [hz] at hu; cases hu; exact .int _ _

theorem wf_i64 {n : Int} (h : (Lit.int .i64 n).wf = true) : -9223372036854775808 ≤ n ∧ n ≤ 9223372036854775807 := by
  have h1 : IntKind.i64.min = -9223372036854775808 := rfl
  have h2 : IntKind.i64.max = 9223372036854775807 := rfl
  unfold Lit.wf at h
  simp only [h1, h2, Bool.and_eq_true, decide_eq_true_eq] at h
  exact h

theorem open_in {Hd : Type} {enc : TypeId × Value → Hd} {P : Program} {t e : TypeId} {W : World} {sp : Nat → Bool} {held : Bool} {v : Value} {d : DataW Hd} {ps : List MemPlace} (ht : P.underlying t = some (.slice e)) (he : P.underlying e = some (.int .i64)) (hc : P.cellsOf e = 1)
    (hone : v.cells = #[v]) (h : DataW.Trod enc P W 0 sp held t v d ps) (i : Nat) : ∃ o pv zs, InInt W v o i pv zs := by
  obtain ⟨fuel, hf⟩ := h
  rcases open_ints ht he hc hf with ⟨hcs, _⟩ | ⟨a, len, cap, zs, hcs, _, hle, hmx, hzl, _, hcell, hwf⟩
  · rw [hone] at hcs
    simp only [List.cons.injEq, and_true] at hcs
    subst hcs
    refine ⟨none, .slice none 0 0, [], ⟨(fun e h => by cases h), fun L _ => VR.nils 0 0 (by decide), fun L _ _ => ⟨none, 0, rfl, fun h => absurd rfl h⟩, (fun z hz => by cases hz), none, 0, rfl, Nat.le_refl _, by decide⟩⟩
  · rw [hone] at hcs
    simp only [List.cons.injEq, and_true] at hcs
    subst hcs
    have hcap : cap < openCap := by unfold maxLen at hmx; unfold openCap; omega
    have hlz : len ≤ zs.length := by rw [hzl]; split <;> omega
    by_cases hl0 : len = 0
    · subst hl0
      refine ⟨none, .slice (some ⟨i, 0, none⟩) 0 cap, [], ⟨(fun e h => by cases h), fun L hL => VR.sl 0 cap hcap hle (.inr (AR_dead hL)), fun L _ _ => ⟨_, cap, rfl, fun h => absurd rfl h⟩, (fun z hz => by cases hz), _, cap, rfl, Nat.zero_le _, hcap⟩⟩
    · have hne : (zs.take len).map iv ≠ [] := by
        intro h0
        have := congrArg List.length h0
        simp only [List.length_map, List.length_take, List.length_nil] at this
        omega
      obtain ⟨hs, m, hent⟩ := ent_of (W := W) (a := a) (vs := (zs.take len).map iv) hne (by
        intro k u hu
        rw [List.getElem?_map, List.getElem?_take] at hu
        split at hu
        · rename_i hk
          have hkz : k < zs.length := by omega
          rw [List.getElem?_eq_getElem hkz] at hu
          cases hu
          rw [hcell k hkz]
          simp [iv, hkz]
        · cases hu)
      refine ⟨some ⟨a.block, a.off, m, (zs.take len).map iv⟩, .slice (some ⟨i, 0, none⟩) len cap, zs.take len, ⟨?_, ?_, ?_, ?_, ⟨some ⟨i, 0, none⟩, cap, by rw [List.length_take, Nat.min_eq_left hlz], by rw [List.length_take, Nat.min_eq_left hlz]; exact hle, hcap⟩⟩⟩
      · intro e h L
        cases h
        exact hent (inB L) _ (LR_ints _)
      · intro L hL
        exact .sl len cap hcap hle (.inr (AR_in hL rfl rfl hs))
      · intro L hLb hL
        refine ⟨some ⟨i, 0, none⟩, cap, by simp [hlz], fun _ => ⟨by omega, i, 0, ⟨0, 0, false, (zs.take len).map iv⟩, rfl, ?_, ?_⟩⟩
        · rw [inH_get L hLb, hL]
        · intro j hj
          simp only [Nat.zero_add]
          exact List.getElem?_eq_getElem hj
      · intro z hz
        exact wf_i64 (hwf z (List.mem_of_mem_take hz))

/- a trie's numbers are below -/
def mxT {α : Type} : Tr α → Nat
  | .nil => 0
  | .node l v r => Nat.max (if v.isSome then 1 else 0) (Nat.max (if mxT l = 0 then 0 else 2 * mxT l) (if mxT r = 0 then 0 else 2 * mxT r + 1))
theorem mxT_get {α : Type} : ∀ (t : Tr α) (k : Nat), mxT t ≤ k → t.get k = none
  | .nil, _, _ => rfl
  | .node l v r, k, h => by
    have h1 : (if v.isSome then 1 else 0) ≤ k := Nat.le_trans (Nat.le_max_left _ _) h
    have h2 : (if mxT l = 0 then 0 else 2 * mxT l) ≤ k := Nat.le_trans (Nat.le_max_left _ _) (Nat.le_trans (Nat.le_max_right _ _) h)
    have h3 : (if mxT r = 0 then 0 else 2 * mxT r + 1) ≤ k := Nat.le_trans (Nat.le_max_right _ _) (Nat.le_trans (Nat.le_max_right _ _) h)
    rw [Tr.get_node]
    by_cases h0 : k = 0
    · rw [if_pos h0]
      cases v with
      | none => rfl
      | some x => simp at h1; omega
    · rw [if_neg h0]
      by_cases hk : k % 2 = 1
      · rw [if_pos hk]
        apply mxT_get l
        split at h2 <;> omega
      · rw [if_neg hk]
        apply mxT_get r
        split at h3 <;> omega

/- a closed run: true, and what there was stays -/
def closedB (old : Nat → Option Blk) : Option (CR × Heap) → Option (Bool × (Nat → Option Blk))
  | some (.ret (.bool b), H) => some (b && decide (base0 ≤ H.next) && decide (mxT H.tr ≤ H.next - base0), H.old)
  | _ => none
theorem closed_of {P : Program} {k f : Nat} {old : Nat → Option Blk} (h : closedB old (call P k f #[] ⟨old, .nil, base0⟩) = some (true, old)) : CW P f #[] ⟨old, .nil, base0⟩ fun x H' => x = .ret (.bool true) ∧ Ext ⟨old, .nil, base0⟩ H' := by
  cases hc : call P k f #[] ⟨old, .nil, base0⟩ with
  | none => rw [hc] at h; cases h
  | some r =>
    obtain ⟨x, H'⟩ := r
    rw [hc] at h
    cases x with
    | pan v => cases h
    | ret v =>
      cases v with
      | bool b =>
        simp only [closedB, Option.some.injEq, Prod.mk.injEq, Bool.and_eq_true, decide_eq_true_eq] at h
        obtain ⟨⟨⟨rfl, h1⟩, h2⟩, h3⟩ := h
        refine ⟨_, H', callW_iff.2 ⟨k, hc⟩, rfl, ⟨h1, fun b hb => ?_⟩, h1, fun b hb => ?_⟩
        · unfold Heap.get
          rw [if_neg (by omega)]
          exact mxT_get _ _ (by omega)
        · have hb : b < base0 := hb
          unfold Heap.get
          rw [if_pos hb, if_pos hb, h3]
      | _ => cases h

set_option maxRecDepth 100000 in
theorem begun_law (old : Nat → Option Blk) : CW Try.prog 9 #[] ⟨old, .nil, base0⟩ fun x H' => x = .ret (.bool true) ∧ Ext ⟨old, .nil, base0⟩ H' := closed_of (k := 2000) (by kernel_rfl)
end Go.Am.T
