/- The world's runs of the other operations beside the abstract machine's. Conditions: those of each theorem. -/
import Derived.Test.YthanhcpnhionaaaAmMem
import Derived.Laws.Tables
import Derived.Great.BuildSlice
set_option linter.all false
set_option linter.unusedSimpArgs false
set_option linter.unusedVariables false
namespace Go.Am
open Go.RowKit

section
variable {P : Program} {β : Ren}

/- parts: numbers the same, values related -/
inductive PR (β : Ren) : List (Nat × Value) → List (Nat × Value) → Prop
  | nil : PR β [] []
  | cons (i : Nat) {v v' : Value} {l l' : List (Nat × Value)} (h : VR β v v') (k : PR β l l') : PR β ((i, v) :: l) ((i, v') :: l')

theorem LR.set {xs ys : List Value} (h : LR β xs ys) {v v' : Value} (hv : VR β v v') (i : Nat) : LR β (xs.set i v) (ys.set i v') := by
  refine ⟨by simp [h.1], fun j u u' hu hu' => ?_⟩
  rw [List.getElem?_set] at hu hu'
  by_cases e : i = j
  · subst e
    by_cases hi : i < xs.length
    · simp only [if_true, hi] at hu; simp only [if_true, (h.1 ▸ hi : i < ys.length)] at hu'
      cases hu; cases hu'; exact hv
    · simp [hi] at hu
  · rw [if_neg e] at hu hu'; exact h.2 j u u' hu hu'

theorem fold_set (off : Nat) : ∀ (cs cs' : List Value) (n : Nat) (xs ys : Array Value), LR β cs cs' → LR β xs.toList ys.toList →
    LR β ((cs.zipIdx n).foldl (fun a (x : Value × Nat) => a.setIfInBounds (off + x.2) x.1) xs).toList ((cs'.zipIdx n).foldl (fun a (x : Value × Nat) => a.setIfInBounds (off + x.2) x.1) ys).toList
  | [], [], _, _, _, _, h => h
  | c :: cs, c' :: cs', n, xs, ys, hc, h => by
    obtain ⟨h1, h2⟩ := hc.head
    simp only [List.zipIdx_cons, List.foldl_cons]
    exact fold_set off cs cs' (n + 1) _ _ h2 (by simp only [Array.toList_setIfInBounds]; exact h.set h1 _)
  | [], _ :: _, _, _, _, hc, _ => by have := hc.1; simp at this
  | _ :: _, [], _, _, _, hc, _ => by have := hc.1; simp at this

theorem fill_rel (place : Nat → Option (Nat × Nat)) : ∀ (ps ps' : List (Nat × Value)) (xs ys out : Array Value), PR β ps ps' → LR β xs.toList ys.toList → Instr.fill place xs ps = some out →
    ∃ out', Instr.fill place ys ps' = some out' ∧ LR β out.toList out'.toList
  | _, _, xs, ys, out, .nil, h, e => by
    simp only [Instr.fill, Option.some.injEq] at e
    subst e
    exact ⟨ys, rfl, h⟩
  | _, _, xs, ys, out, .cons (l := l) (l' := l') i (v := v) (v' := v') hv k, h, e => by
    simp only [Instr.fill] at e ⊢
    cases hp : place i with
    | none => rw [hp] at e; cases e
    | some q =>
      obtain ⟨off, size⟩ := q
      rw [hp] at e
      have hsz : v'.cells.size = v.cells.size := by have := hv.cells.1; simpa using this.symm
      have hsz2 : ys.size = xs.size := by have := h.1; simpa using this.symm
      simp only at e ⊢
      split at e
      · cases e
      · rename_i hn
        rw [hsz, hsz2, if_neg hn]
        have hf := fold_set (β := β) off v.cells.toList v'.cells.toList 0 xs ys hv.cells h
        have e1 : ∀ (a : Array Value) (z : Array Value), a.zipIdx.foldl (fun cs (x : Value × Nat) => cs.setIfInBounds (off + x.2) x.1) z = (a.toList.zipIdx 0).foldl (fun cs (x : Value × Nat) => cs.setIfInBounds (off + x.2) x.1) z := by
          intro a z
          rw [← Array.foldl_toList, Array.toList_zipIdx]
        refine fill_rel place l l' _ _ out k ?_ e
        have f1 := e1 v.cells xs
        have f2 := e1 v'.cells ys
        rw [← f1, ← f2] at hf
        exact hf

theorem many_eq (z : Array Value) : ∀ n, ((Array.range (n * z.size)).map (z[· % z.size]!)).toList = manyA z.toList n := by
  intro n
  have key : ∀ n, (List.range (n * z.size)).map (z[· % z.size]!) = manyA z.toList n := by
    intro n
    induction n with
    | zero => simp [manyA]
    | succ n ih =>
      have e : (n + 1) * z.size = z.size + n * z.size := by rw [Nat.succ_mul, Nat.add_comm]
      rw [e, List.range_add, List.map_append, List.map_map, manyA]
      congr 1
      · apply List.ext_getElem?
        intro j
        by_cases hj : j < z.size
        · simp [hj, Nat.mod_eq_of_lt hj]
        · simp [hj]
      · rw [← ih]
        apply List.map_congr_left
        intro i _
        simp [Nat.add_mod_left]
  simpa using key n

theorem manyA_len (z : List Value) : ∀ n, (manyA z n).length = n * z.length
  | 0 => by simp [manyA]
  | n + 1 => by simp [manyA, manyA_len z n, Nat.succ_mul, Nat.add_comm]

theorem LR.many {z z' : List Value} (h : LR β z z') : ∀ n, LR β (manyA z n) (manyA z' n)
  | 0 => .nil β
  | n + 1 => h.append (LR.many h n)

theorem run_buildA {t : TypeId} {ps ps' : List (Nat × Value)} {v : Value} (h : buildA P t ps = some v) (hp : PR β ps ps') (w : World) :
    ∃ v', (Instr.build t ps'.toArray).run P w = .ok v' w ∧ VR β v v' := by
  unfold buildA at h
  obtain ⟨z, hz, h1⟩ := bind_some h
  obtain ⟨d, hd, h2⟩ := bind_some h1
  have hzz := (run_zeroValue hz w).2
  have hzr : LR β z.cells.toList z.cells.toList := (VR.plain hzz).cells
  obtain ⟨i, hi, hiz⟩ : ∃ i, P.info? t = some i ∧ i.zero = some z := by
    unfold zeroA at hz
    obtain ⟨z', hz', k⟩ := bind_some hz
    cases hi : P.info? t with
    | none => rw [hi] at hz'; cases hz'
    | some i =>
      rw [hi] at hz'
      split at k
      · cases k; exact ⟨i, rfl, hz'⟩
      · cases k
  cases d with
  | struct fields =>
    obtain ⟨places, hpl, h3⟩ := bind_some h2
    obtain ⟨out, ho, rfl⟩ := map_some h3
    obtain ⟨out', ho', r⟩ := fill_rel _ ps ps' _ _ _ hp hzr ho
    refine ⟨.agg out', ?_, .aggL r⟩
    refine run_build w t ps'.toArray out' ?_
    have hpl' : fields.toList.mapM (fun f => (P.info? f.type).map fun i => (f.offset, i.size)) = some places := by
      have e : (fun f : Field => (P.info? f.type).map fun i => (f.offset, i.size)) = fun f : Field => (szA P f.type).map fun n => (f.offset, n) := by
        funext f; simp [szA, Option.map_map, Function.comp_def]
      rw [e]; exact hpl
    simp only [Program.built, hi, hd, hiz, hpl']
    simpa using ho'
  | array n e =>
    obtain ⟨size, hs, h3⟩ := bind_some h2
    obtain ⟨out, ho, rfl⟩ := map_some h3
    obtain ⟨out', ho', r⟩ := fill_rel _ ps ps' _ _ _ hp hzr ho
    refine ⟨.agg out', ?_, .aggL r⟩
    refine run_build w t ps'.toArray out' ?_
    obtain ⟨ie, hie, rfl⟩ := map_some hs
    simp only [Program.built, hi, hd, hiz, hie]
    simpa using ho'
  | _ => cases h2

theorem run_fieldAddrA {s : TypeId} {v v' u : Value} {f : Nat} (h : fieldAddrA P s v f = some u) (hv : VR β v v') (w : World) :
    ∃ u', (Instr.fieldAt s v' f).run P w = .ok u' w ∧ VR β u u' := by
  unfold fieldAddrA at h
  obtain ⟨d, hd, h1⟩ := bind_some h
  cases d with
  | struct fields =>
    cases hv with
    | ptr ha =>
      rename_i a a'
      obtain ⟨fd, hf, h2⟩ := bind_some h1
      obtain ⟨n, hn, h3⟩ := bind_some h2
      split at h3
      · cases h3
      · rename_i hc
        cases h3
        have hn0 : n ≠ 0 := by intro e; subst e; simp at hc
        refine ⟨.pointer (some (a'.add fd.offset)), ?_, .ptr ⟨rfl, ha.2.1, fun T hT => ?_⟩⟩
        · simp [Instr.fieldAt, run_underlying hd, hf, Instr.sureAddr, fieldPlace, run_sizeOf hn, hn0]
        · rw [ha.2.2 T hT, Addr.add_lit, Nat.add_assoc]
    | _ => cases h1
  | _ => cases h1

theorem run_partA {t : TypeId} {x x' : Array Value} {off : Nat} {u : Value} (h : partA P t x off = some u) (hx : LR β x.toList x'.toList) (w : World) :
    ∃ u', (part t x' off).run P w = .ok u' w ∧ VR β u u' := by
  unfold partA at h
  obtain ⟨b, hb, h1⟩ := bind_some h
  cases b with
  | true =>
    have h2 : (do let n ← szA P t; some (Value.agg (x.extract off (off + n)))) = some u := h1
    obtain ⟨n, hn, h3⟩ := bind_some h2
    cases h3
    refine ⟨.agg (x'.extract off (off + n)), by simp [part, run_isAgg hb, run_sizeOf hn], .aggL ?_⟩
    simp only [Array.toList_extract]
    exact (hx.drop off).take _
  | false =>
    have h2 : x[off]? = some u := h1
    obtain ⟨u', e, r⟩ := hx.get (i := off) (u := u) (by simpa using h2)
    have e' : x'[off]? = some u' := by simpa using e
    exact ⟨u', by simp [part, run_isAgg hb, e'], r⟩

theorem run_fieldA {t : TypeId} {v v' u : Value} {f : Nat} (h : fieldA P t v f = some u) (hv : VR β v v') (w : World) :
    ∃ u', (Instr.field t v' f).run P w = .ok u' w ∧ VR β u u' := by
  unfold fieldA at h
  obtain ⟨d, hd, h1⟩ := bind_some h
  cases d with
  | struct fields =>
    cases hv with
    | agg hx kx =>
      obtain ⟨fd, hf, h2⟩ := bind_some h1
      obtain ⟨u', e, r⟩ := run_partA h2 (LR.ofA hx kx) w
      exact ⟨u', by simp [Instr.field, run_underlying hd, hf, asAgg, e], r⟩
    | _ => cases h1
  | _ => cases h1

theorem run_indexAddrA {t : TypeId} {v v' x x' u : Value} (h : indexAddrA P t v x = some u) (hv : VR β v v') (hx : VR β x x') (w : World) :
    ∃ u', (Instr.indexAt t v' x').run P w = .ok u' w ∧ VR β u u' := by
  unfold indexAddrA at h
  obtain ⟨d, hd, h1⟩ := bind_some h
  cases d with
  | array n e =>
    cases hv with
    | ptr ha =>
      rename_i a a'
      cases hx with
      | int k i =>
        simp only at h1
        split at h1
        · cases h1
        split at h1
        case isFalse => cases h1
        rename_i hi
        obtain ⟨sz, hsz, h3⟩ := bind_some h1
        cases h3
        refine ⟨.pointer (some (a'.add (i.toNat * sz))), ?_, .ptr ⟨rfl, ha.2.1, fun T hT => ?_⟩⟩
        · simp [Instr.indexAt, asIntOf, run_underlying hd, Instr.sureAddr, hi, run_sizeOf hsz]
        · rw [ha.2.2 T hT, Addr.add_lit, Nat.add_assoc]
      | _ => cases h1
    | _ => cases h1
  | slice e =>
    cases hv with
    | sl l c hc hl ha =>
      rename_i a a'
      cases hx with
      | int k i =>
        simp only at h1
        split at h1
        · cases h1
        rename_i hsc
        split at h1
        case isFalse => cases h1
        rename_i hi
        obtain ⟨sz, hsz, h3⟩ := bind_some h1
        cases h3
        have hc0 : c ≠ 0 := by intro e; subst e; simp at hsc
        have ha' : AR β a a' := ha.resolve_left hc0
        refine ⟨.pointer (some (a'.add (i.toNat * sz))), ?_, .ptr ⟨rfl, ha'.2.1, fun T hT => ?_⟩⟩
        · simp [Instr.indexAt, asIntOf, run_underlying hd, hi, run_sizeOf hsz]
        · rw [ha'.2.2 T hT, Addr.add_lit, Nat.add_assoc]
      | _ => cases h1
    | op l c hl hs hu ha =>
      rename_i a a'
      cases hx with
      | int k i =>
        simp only at h1
        split at h1
        · cases h1
        split at h1
        case isFalse => cases h1
        rename_i hi
        obtain ⟨sz, hsz, h3⟩ := bind_some h1
        cases h3
        refine ⟨.pointer (some (a'.add (i.toNat * sz))), ?_, .ptr ⟨rfl, hu, fun T hT => ?_⟩⟩
        · simp [Instr.indexAt, asIntOf, run_underlying hd, hi, run_sizeOf hsz]
        · obtain ⟨_, _, hd⟩ := ha T hT
          rw [hd.resolve_left (by omega), Addr.add_lit, Nat.add_assoc]
      | _ => cases h1
    | _ => cases h1
  | _ => cases h1

theorem run_indexA {t : TypeId} {v v' x x' u : Value} (h : indexA P t v x = some u) (hv : VR β v v') (hx : VR β x x') (w : World) :
    ∃ u', (Instr.index t v' x').run P w = .ok u' w ∧ VR β u u' := by
  unfold indexA at h
  obtain ⟨d, hd, h1⟩ := bind_some h
  cases d with
  | array n e =>
    cases hv with
    | agg hs kx =>
      cases hx with
      | int k i =>
        simp only at h1
        split at h1
        case isFalse => cases h1
        rename_i hi
        obtain ⟨sz, hsz, h3⟩ := bind_some h1
        obtain ⟨u', e, r⟩ := run_partA h3 (LR.ofA hs kx) w
        exact ⟨u', by simp [Instr.index, asIntOf, run_underlying hd, hi, run_sizeOf hsz, e], r⟩
      | _ => cases h1
    | _ => cases h1
  | string =>
    cases hv with
    | string s =>
      cases hx with
      | int k i =>
        simp only at h1
        split at h1
        case isFalse => cases h1
        rename_i hi
        obtain ⟨b, hb, rfl⟩ := map_some h1
        exact ⟨_, by simp [Instr.index, asIntOf, run_underlying hd, hi, hb], .int _ _⟩
      | _ => cases h1
    | _ => cases h1
  | _ => cases h1

end
end Go.Am
