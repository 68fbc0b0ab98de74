/- The world's runs of loads, stores, new blocks, slices, appends, beside the abstract machine's. Conditions: those of each theorem. -/
import Derived.Test.YthanhcpnhionaaaAmRel
import Derived.Laws.CopyOwn
set_option linter.all false
set_option linter.unusedSimpArgs false
set_option linter.unusedVariables false
namespace Go.Am
open Go.RowKit

section
variable {P : Program} {β : Ren} {H : Heap} {X : XF} {base : Nat} {w : World}

theorem bind_some {α γ : Type} {x : Option α} {f : α → Option γ} {c : γ} (h : (x >>= f) = some c) : ∃ a, x = some a ∧ f a = some c := by
  cases x with
  | none => cases h
  | some a => exact ⟨a, rfl, h⟩

theorem map_some {α γ : Type} {x : Option α} {f : α → γ} {c : γ} (h : x.map f = some c) : ∃ a, x = some a ∧ f a = c := by
  cases x with
  | none => cases h
  | some a => exact ⟨a, rfl, by simpa using h⟩

theorem run_sizeOf {t : TypeId} {n : Nat} (h : szA P t = some n) (w : World) : (sizeOf t).run P w = .ok n w := by
  obtain ⟨i, hi, rfl⟩ := map_some h
  simp [sizeOf, typeInfo, hi]

theorem run_isAgg {t : TypeId} {b : Bool} (h : aggA P t = some b) (w : World) : (isAgg t).run P w = .ok b w := by
  obtain ⟨d, hd, rfl⟩ := map_some h
  simp only [isAgg, Sem.run_bind, run_underlying hd, Result.andThen_ok]
  cases d <;> rfl

theorem run_typeInfo {t : TypeId} {i : TypeInfo} (h : P.info? t = some i) (w : World) : (typeInfo t).run P w = .ok i w := by simp [typeInfo, h]

theorem run_zeroValue {t : TypeId} {z : Value} (h : zeroA P t = some z) (w : World) : (zeroValue t).run P w = .ok z w ∧ plainV z = true := by
  obtain ⟨z', hz, h2⟩ := bind_some h
  cases hi : P.info? t with
  | none => rw [hi] at hz; cases hz
  | some i =>
    rw [hi] at hz
    split at h2
    · rename_i hp
      cases h2
      have hz' : i.zero = some z := hz
      exact ⟨by simp [zeroValue, run_typeInfo hi, hz'], hp⟩
    · cases h2

/- a load of one cell -/
theorem run_load1 (h : HR β H X base w) {a a' : Addr} {v : Value} (hl : H.load1 a = some v) (ha : AR β a a') : ∃ v', (load a').run P w = .ok v' w ∧ VR β v v' := by
  unfold Heap.load1 at hl
  obtain ⟨⟨⟩, hs, hl⟩ := bind_some (x := if a.spot.isSome = true then none else some PUnit.unit) (f := fun _ => do let x ← H.get a.block; x.cells[a.off]?) (by
    by_cases hs : a.spot.isSome = true
    · simp [hs] at hl
    · simpa [hs] using hl)
  obtain ⟨x, hx, hc⟩ := bind_some hl
  obtain ⟨T, hT, hB, _⟩ := h.mem hx
  obtain ⟨v', e, r⟩ := hB.cell hc
  refine ⟨v', ?_, r⟩
  rw [ha.2.2 T hT]
  simp [run_load, e]

theorem loads_some {a : Addr} {n : Nat} {l : List Value} (hl : H.loads a n = some l) :
    a.spot = none ∧ ∃ x, H.get a.block = some x ∧ a.off + n ≤ x.cells.length ∧ l = (x.cells.drop a.off).take n := by
  unfold Heap.loads at hl
  by_cases hs : a.spot.isSome = true
  · simp [hs] at hl
  · have hs' : a.spot = none := by cases h : a.spot <;> simp_all
    refine ⟨hs', ?_⟩
    simp only [hs] at hl
    obtain ⟨x, hx, hl⟩ := bind_some (x := H.get a.block) (by simpa using hl)
    refine ⟨x, hx, ?_⟩
    split at hl
    · rename_i hle; exact ⟨hle, by simpa using hl.symm⟩
    · cases hl

/- a row of cells of the world behind an abstract one -/
theorem row_cells (h : HR β H X base w) {a a' : Addr} {n : Nat} {l : List Value} (hl : H.loads a n = some l) (ha : AR β a a') :
    ∃ l', l'.length = n ∧ (∀ j v, l'[j]? = some v → w.cell? (a'.add j) = some v) ∧ LR β l l' := by
  obtain ⟨hs, x, hx, hle, rfl⟩ := loads_some hl
  obtain ⟨T, hT, hB, _⟩ := h.mem hx
  obtain ⟨C, ty, fz, o1, o2, _, o4⟩ := hB.obj
  have ea := ha.2.2 T hT
  have hn := hB.n
  have hTle := hB.le
  refine ⟨((((C.toList.drop T.p).take T.n).drop a.off).take n), ?_, ?_, (o4.drop a.off).take n⟩
  · simp; omega
  · intro j v hj
    rw [List.getElem?_take] at hj
    split at hj
    · rw [List.getElem?_drop, List.getElem?_take] at hj
      split at hj
      · rw [List.getElem?_drop] at hj
        rw [ea, Addr.add_lit]
        simp only [World.cell?, o1]
        simp only [Option.isSome_none, Bool.false_eq_true, if_false]
        rw [← Array.getElem?_toList, ← hj]
        congr 1
        omega
      · cases hj
    · cases hj

theorem run_loads (h : HR β H X base w) {a a' : Addr} {n : Nat} {l : List Value} (hl : H.loads a n = some l) (ha : AR β a a') :
    ∃ l', (loadCells a' n).run P w = .ok l'.toArray w ∧ LR β l l' := by
  obtain ⟨l', e, c, r⟩ := row_cells h hl ha
  refine ⟨l', ?_, r⟩
  rw [← e]
  exact run_loadCells_list w a' l' c

theorem run_loadVar (h : HR β H X base w) {t : TypeId} {a a' : Addr} {u : Value} (hl : loadA P H t (.pointer (some a)) = some u) (ha : AR β a a') :
    ∃ u', (loadVar t a').run P w = .ok u' w ∧ VR β u u' := by
  unfold loadA at hl
  obtain ⟨b, hb, hl1⟩ := bind_some hl
  cases b with
  | true =>
    have hl : (do let n ← szA P t; (H.loads a n).map fun l => Value.agg l.toArray) = some u := hl1
    obtain ⟨n, hn, hl2⟩ := bind_some hl
    obtain ⟨l, hl3, rfl⟩ := map_some hl2
    obtain ⟨l', e, r⟩ := run_loads (P := P) h hl3 ha
    refine ⟨.agg l'.toArray, ?_, .aggL (by simpa using r)⟩
    simp [loadVar, run_isAgg hb, run_sizeOf hn, e]
  | false =>
    have hl2 : H.load1 a = some u := hl1
    obtain ⟨u', e, r⟩ := run_load1 (P := P) h hl2 ha
    refine ⟨u', ?_, r⟩
    simp only [loadVar, Sem.run_bind, run_isAgg hb, Result.andThen_ok, Bool.false_eq_true, if_false, e]

theorem run_loadAt (h : HR β H X base w) {t : TypeId} {v v' u : Value} (hl : loadA P H t v = some u) (hv : VR β v v') :
    ∃ u', (Instr.loadAt t v').run P w = .ok u' w ∧ VR β u u' := by
  cases hv with
  | ptr ha =>
    obtain ⟨u', e, r⟩ := run_loadVar h hl ha
    exact ⟨u', by simp [Instr.loadAt, Instr.sureAddr, e], r⟩
  | _ => simp [loadA] at hl

/- a store of cells -/
theorem run_stores (h : HR β H X base w) {a a' : Addr} {vs vs' : List Value} {H' : Heap} (hs : H.stores a vs = some H') (ha : AR β a a') (hv : LR β vs vs') :
    ∃ w', (storeCells a' vs').run P w = .ok () w' ∧ HR β H' X base w' ∧ Below base w w' ∧ H'.next = H.next := by
  unfold Heap.stores at hs
  by_cases hc : (a.spot.isSome || a.block < base0 || !vs.all Heap.oneC) = true
  · simp [hc] at hs
  simp only [hc] at hs
  have hc' : a.spot.isSome = false ∧ base0 ≤ a.block ∧ vs.all Heap.oneC = true := by
    simp only [Bool.or_eq_true, not_or, decide_eq_true_eq, Bool.not_eq_true', Bool.not_eq_false] at hc
    refine ⟨by simpa using hc.1.1, by omega, by simpa using hc.2⟩
  obtain ⟨_, hb, hone⟩ := hc'
  obtain ⟨x, hx, hs⟩ := bind_some (x := H.get a.block) (by simpa using hs)
  split at hs
  case isFalse => cases hs
  rename_i hle
  cases hs
  obtain ⟨T, hT, hB, hbb⟩ := h.mem hx
  obtain ⟨C, ty, fz, o1, o2, o3, o4⟩ := hB.obj
  have ofz : fz = (0, 0) := o3 hb
  subst ofz
  have hn := hB.n
  have hTle := hB.le
  have hlen := hv.1
  have ea := ha.2.2 T hT
  have hall : ∀ v ∈ vs', v.oneCell' = true := by
    intro v hv'
    obtain ⟨j, hj, rfl⟩ := List.getElem_of_mem hv'
    have hj0 : j < vs.length := by omega
    have hr := hv.2 j vs[j] vs'[j] (by simp [hj0]) (by simp [hj])
    exact hr.oneC (List.all_eq_true.1 hone _ (List.getElem_mem hj0))
  have hrun := run_storeCells_at (P := P) T.b (T.p + a.off) ty vs' 0 C w o1 (by omega) hall
  rw [← ea] at hrun
  refine ⟨_, hrun, ?_, ?_, by simp⟩
  · refine h.put a.block x _ T C _ ty hb hx hT o1 (by simp) (fun j => Heap.get_set hb) ?_ rfl rfl ?_ ?_
    · show (Heap.splice x.cells a.off vs).length = _
      simp [Heap.splice]; omega
    · simp; omega
    · show LR β (Heap.splice x.cells a.off vs) _
      have e : ((C.toList.take (T.p + a.off) ++ vs' ++ C.toList.drop (T.p + a.off + vs'.length)).drop T.p).take T.n
          = Heap.splice ((C.toList.drop T.p).take T.n) a.off vs' := by
        apply List.ext_getElem?
        intro j
        simp only [Heap.splice, List.getElem?_take, List.getElem?_drop, List.getElem?_append, List.length_take, List.length_drop, Array.length_toList, List.length_append, List.take_take]
        have hsz : C.size = T.m := o2
        by_cases h1 : j < T.n
        · rw [if_pos h1]
          by_cases h2 : j < a.off
          · simp (disch := omega) only [if_pos]
          · by_cases h3 : j < a.off + vs'.length
            · simp (disch := omega) only [if_pos, if_neg]
              congr 1
              omega
            · rw [if_neg (by omega), if_neg (by omega), if_pos (by omega)]
              congr 1
              omega
        · rw [if_neg h1]
          symm
          rw [if_neg (by omega), if_neg (by omega)]
      simp only [Nat.add_zero]
      rw [e]
      exact ((o4.take a.off).append hv).append (by rw [hlen]; exact o4.drop _)
  · rw [if_pos hb] at hbb
    exact below_setRow (Below.refl _ _) hbb _

theorem run_storeAt (h : HR β H X base w) {t : TypeId} {p p' v v' : Value} {H' : Heap} (hs : storeA P H t p v = some H') (hp : VR β p p') (hv : VR β v v') :
    ∃ w', (Instr.storeAt t p' v').run P w = .ok () w' ∧ HR β H' X base w' ∧ Below base w w' ∧ H'.next = H.next := by
  cases hp with
  | ptr ha =>
    unfold storeA at hs
    obtain ⟨n, hn, hs⟩ := bind_some hs
    split at hs
    case isFalse => cases hs
    rename_i hsz
    obtain ⟨w', e, r⟩ := run_stores (P := P) h hs ha hv.cells
    refine ⟨w', ?_, r⟩
    have hsz' : v'.cells.size = n := by have := hv.cells.1; simp at this; omega
    simp [Instr.storeAt, Instr.sureAddr, storeVar, run_sizeOf hn, hsz', e]
  | _ => simp [storeA] at hs

end
end Go.Am
