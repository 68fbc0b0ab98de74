/- Arguments that are tasks, as the abstract machine has them. Conditions: those of each theorem. -/
import Derived.Test.YthanhcpnhionaaaSdU
import Derived.Deep.Slices
import Derived.ChangeSame
set_option linter.all false
set_option linter.unusedSimpArgs false
set_option linter.unusedVariables false
namespace Go.Am.T
open Go Go.Am Go.Proofs.Ythanhcpnhionaaa Go.Proofs Go.RowKit Go.ChangeShapes Go.WideShapes Go.Deep

structure InAct (W : World) (v : Value) (o : Option Ent) (i : Nat) (pv : Value) (l : List Act) : Prop where
  ok : ∀ e, o = some e → ∀ L, EntOk W (inB L) e
  vr : ∀ L : InL, L[i]? = some o → VR (inB L) pv v
  rd : ∀ L : InL, L.length ≤ base0 → L[i]? = some o → ActsAt (inH L) pv l

theorem LR_acts {β : Ren} (l : List Act) : LR β (actC l) (actC l) := by
  refine ⟨rfl, fun i u u' hu hu' => ?_⟩
  rw [hu] at hu'; cases hu'
  have hm : u ∈ actC l := List.mem_of_getElem? hu
  have key : ∀ l : List Act, u ∈ actC l → ∃ z, u = .int .i64 z := by
    intro l
    induction l with
    | nil => intro h; cases h
    | cons a l ih =>
      intro h
      rcases List.mem_append.1 h with h | h
      · simp only [Act.cells, List.mem_cons, List.not_mem_nil, or_false] at h
        rcases h with h | h | h | h <;> exact ⟨_, h⟩
      · exact ih h
  obtain ⟨z, rfl⟩ := key l hm
  exact .int _ _

theorem actC_get (l : List Act) : ∀ (k : Nat) (u : Value), (actC l)[k]? = some u → ∃ h : k / 4 < l.length, ((l[k / 4]).cells)[k % 4]? = some u := by
  induction l with
  | nil => intro k u h; simp [actC] at h
  | cons a l ih =>
    intro k u h
    simp only [actC] at h
    by_cases hk : k < 4
    · rw [List.getElem?_append_left (by exact hk)] at h
      have e1 : k / 4 = 0 := by omega
      have e2 : k % 4 = k := by omega
      refine ⟨by rw [e1]; simp, ?_⟩
      simp only [e1, List.getElem_cons_zero, e2]; exact h
    · rw [List.getElem?_append_right (by exact Nat.le_of_not_lt hk)] at h
      have h : (actC l)[k - 4]? = some u := h
      obtain ⟨h1, h2⟩ := ih _ _ h
      have e1 : k / 4 = (k - 4) / 4 + 1 := by omega
      have e2 : k % 4 = (k - 4) % 4 := by omega
      refine ⟨by rw [e1]; simp; omega, ?_⟩
      simp only [e1, List.getElem_cons_succ, e2]; exact h2

theorem len4 {α : Type} : ∀ {l : List α}, l.length = 4 → ∃ a b c d, l = [a, b, c, d]
  | [a, b, c, d], _ => ⟨a, b, c, d, rfl⟩
  | [], h => by cases h
  | [_], h => by cases h
  | [_, _], h => by cases h
  | [_, _, _], h => by cases h
  | _ :: _ :: _ :: _ :: _ :: _, h => by simp at h

theorem open_acts {Hd : Type} {enc : TypeId × Value → Hd} {W : World} {sp : Nat → Bool} {held : Bool} {V : Value} {n : Nat} {x : DataW Hd × List MemPlace} {f0 f1 f2 f3 : Field}
    (ht : Try.prog.underlying 45 = some (.slice 47)) (he : Try.prog.underlying 47 = some (.struct #[f0, f1, f2, f3])) (ce : Try.prog.cellsOf 47 = 4)
    (hf : f0.offset = 0 ∧ f1.offset = 1 ∧ f2.offset = 2 ∧ f3.offset = 3) (hk : Try.prog.underlying f0.type = some (.int .i64) ∧ Try.prog.underlying f1.type = some (.int .i64) ∧ Try.prog.underlying f2.type = some (.int .i64) ∧ Try.prog.underlying f3.type = some (.int .i64))
    (hc : Try.prog.cellsOf f0.type = 1 ∧ Try.prog.cellsOf f1.type = 1 ∧ Try.prog.cellsOf f2.type = 1 ∧ Try.prog.cellsOf f3.type = 1)
    (h : DataW.trod enc Try.prog W 0 sp held n 45 [V] = some x) (i : Nat) : ∃ q : Option Ent × Value × List Act, InAct W V q.1 i q.2.1 q.2.2 := by
  rcases open_slice ht h with ⟨h0, _⟩ | ⟨a, len, cap, m, n', D, Pl, h0, _, hl, hm, hmm, _, hx⟩
  · simp only [List.cons.injEq, and_true] at h0
    subst h0
    exact ⟨(none, .slice none 0 0, []), ⟨(fun e h => by cases h), fun L _ => VR.nils 0 0 (by decide), fun L _ _ => ⟨none, 0, rfl, fun h => absurd rfl h⟩⟩⟩
  simp only [List.cons.injEq, and_true] at h0
  subst h0
  have hcap : cap < openCap := by unfold maxLen at hm; unfold openCap; omega
  have hlm : len ≤ m := by rw [hmm]; split <;> omega
  rw [ce] at hx
  by_cases hl0 : len = 0
  · subst hl0
    exact ⟨(none, .slice (some ⟨i, 0, none⟩) 0 cap, []), ⟨(fun e h => by cases h), fun L hL => VR.sl 0 cap hcap hl (.inr (AR_dead hL)), fun L _ _ => ⟨_, cap, rfl, fun h => absurd rfl h⟩⟩⟩
  have each : ∀ j, j < len → ∃ A : Act, ∀ t, t < 4 → ∀ u, (A.cells)[t]? = some u → W.cell? (a.add (j * 4 + t)) = some u := by
    intro j hj
    obtain ⟨cs', h1, h2⟩ := hx j (by omega)
    obtain ⟨_, hlen, hcell⟩ := World.cells?_some h1
    obtain ⟨xs, k, _, _, _, hxl, hfl⟩ := DataW.trod_struct he h2
    obtain ⟨y0, y1, y2, y3, rfl⟩ := len4 (show xs.length = 4 from hxl)
    obtain ⟨v0, v1, v2, v3, rfl⟩ := len4 hlen
    have g0 := hfl 0 f0 rfl
    have g1 := hfl 1 f1 rfl
    have g2 := hfl 2 f2 rfl
    have g3 := hfl 3 f3 rfl
    simp only [hf, hc, List.drop_zero, List.drop_succ_cons, List.take_succ_cons, List.take_zero, List.getElem?_cons_zero, List.getElem?_cons_succ] at g0 g1 g2 g3
    obtain ⟨z0, e0, _⟩ := DataW.trod_int hk.1 g0
    obtain ⟨z1, e1, _⟩ := DataW.trod_int hk.2.1 g1
    obtain ⟨z2, e2, _⟩ := DataW.trod_int hk.2.2.1 g2
    obtain ⟨z3, e3, _⟩ := DataW.trod_int hk.2.2.2 g3
    simp only [List.cons.injEq, and_true] at e0 e1 e2 e3
    subst e0 e1 e2 e3
    refine ⟨⟨z0, z1, z2, z3⟩, fun t ht u hu => ?_⟩
    have := hcell t ht
    rw [Addr.add_add] at this
    rw [this]
    exact hu
  have : Inhabited Act := ⟨⟨0, 0, 0, 0⟩⟩
  obtain ⟨A, hA⟩ := choose_lt each
  have hl4 : ((List.range len).map A).length = len := by simp
  have hne : actC ((List.range len).map A) ≠ [] := by
    intro e
    have := congrArg List.length e
    rw [actC_len, hl4] at this
    simp at this; omega
  obtain ⟨hs, sz, hent⟩ := ent_of (W := W) (a := a) (vs := actC ((List.range len).map A)) hne (by
    intro k u hu
    obtain ⟨h1, h2⟩ := actC_get _ k u hu
    have hkl : k / 4 < len := by rw [hl4] at h1; exact h1
    simp only [List.getElem_map, List.getElem_range] at h2
    have := hA (k / 4) hkl (k % 4) (Nat.mod_lt _ (by omega)) u h2
    rw [show k / 4 * 4 + k % 4 = k by omega] at this
    exact this)
  refine ⟨(some ⟨a.block, a.off, sz, actC ((List.range len).map A)⟩, .slice (some ⟨i, 0, none⟩) len cap, (List.range len).map A), ⟨?_, ?_, ?_⟩⟩
  · intro e h L
    cases h
    exact hent (inB L) _ (LR_acts _)
  · intro L hL
    exact .sl len cap hcap hl (.inr (AR_in hL rfl rfl hs))
  · intro L hLb hL
    refine ⟨some ⟨i, 0, none⟩, cap, by rw [hl4], fun _ => ⟨by omega, i, 0, ⟨0, 0, false, actC ((List.range len).map A)⟩, rfl, ?_, fun j hj => ?_⟩⟩
    · rw [inH_get L hLb, hL]
    · simp only [Nat.zero_add]
      have hj : j < ((List.range len).map A).length := hj
      refine ⟨by rw [actC_len]; omega, actC_at _ j hj⟩

/- the tasks: the outer list is entry 0 of L, its elements are the entries from k on -/
structure InTasks (W : World) (v : Value) (k : Nat) (o : Option Ent) (os : List (Option Ent)) (tv : Value) (ts : List (List Act)) (av : Nat → Value) : Prop where
  len : os.length = ts.length
  n : ∀ a n c, v = .slice a n c → ts.length = n
  ok : ∀ L : InL, L[0]? = some o → (∀ j, j < os.length → L[k + j]? = os[j]?) → (∀ e : Ent, o = some e → EntOk W (inB L) e) ∧ ∀ (j : Nat) (e : Ent), os[j]? = some (some e) → EntOk W (inB L) e
  vr : ∀ L : InL, L[0]? = some o → VR (inB L) tv v
  rd : ∀ L : InL, L.length ≤ base0 → L[0]? = some o → (∀ j, j < os.length → L[k + j]? = os[j]?) → TasksAt (inH L) tv ts av

theorem open_tasks {Hd : Type} {enc : TypeId × Value → Hd} {W : World} {sp : Nat → Bool} {held : Bool} {v : Value} {d : DataW Hd} {ps : List MemPlace} {f0 f1 f2 f3 : Field}
    (hto : Try.prog.underlying 22 = some (.slice 45)) (co : Try.prog.cellsOf 45 = 1)
    (ht : Try.prog.underlying 45 = some (.slice 47)) (he : Try.prog.underlying 47 = some (.struct #[f0, f1, f2, f3])) (ce : Try.prog.cellsOf 47 = 4)
    (hf : f0.offset = 0 ∧ f1.offset = 1 ∧ f2.offset = 2 ∧ f3.offset = 3) (hk : Try.prog.underlying f0.type = some (.int .i64) ∧ Try.prog.underlying f1.type = some (.int .i64) ∧ Try.prog.underlying f2.type = some (.int .i64) ∧ Try.prog.underlying f3.type = some (.int .i64))
    (hc : Try.prog.cellsOf f0.type = 1 ∧ Try.prog.cellsOf f1.type = 1 ∧ Try.prog.cellsOf f2.type = 1 ∧ Try.prog.cellsOf f3.type = 1)
    (hone : v.cells = #[v]) (h : DataW.Trod enc Try.prog W 0 sp held 22 v d ps) (k : Nat) : ∃ o os tv ts av, InTasks W v k o os tv ts av := by
  obtain ⟨fuel, hfu⟩ := h
  rcases open_slice1 hto co hfu with ⟨hcs, _⟩ | ⟨a, len, cap, m, n, V, D, Pl, hcs, _, hl, hm, hmm, _, hx⟩
  · rw [hone] at hcs
    simp only [List.cons.injEq, and_true] at hcs
    subst hcs
    exact ⟨none, [], .slice none 0 0, [], fun _ => .slice none 0 0, ⟨rfl, (fun a n c e => by cases e; rfl), fun L _ _ => ⟨(fun e h => by cases h), fun j e h => by simp at h⟩, fun L _ => VR.nils 0 0 (by decide), fun L _ _ _ => ⟨⟨none, 0, rfl, fun h => absurd rfl h⟩, fun i hi => by cases hi⟩⟩⟩
  rw [hone] at hcs
  simp only [List.cons.injEq, and_true] at hcs
  subst hcs
  have hcap : cap < openCap := by unfold maxLen at hm; unfold openCap; omega
  have hlm : len ≤ m := by rw [hmm]; split <;> omega
  by_cases hl0 : len = 0
  · subst hl0
    exact ⟨none, [], .slice (some ⟨0, 0, none⟩) 0 cap, [], fun _ => .slice none 0 0, ⟨rfl, (fun a n c e => by cases e; rfl), fun L _ _ => ⟨(fun e h => by cases h), fun j e h => by simp at h⟩, fun L hL => VR.sl 0 cap hcap hl (.inr (AR_dead hL)), fun L _ _ _ => ⟨⟨_, cap, rfl, fun h => absurd rfl h⟩, fun i hi => by cases hi⟩⟩⟩
  have each : ∀ j, j < len → ∃ q : Option Ent × Value × List Act, InAct W (V j) q.1 (k + j) q.2.1 q.2.2 := fun j hj => open_acts ht he ce hf hk hc (hx j (by omega)).2 (k + j)
  have : Inhabited (Option Ent × Value × List Act) := ⟨(none, .nilIface, [])⟩
  obtain ⟨q, hq⟩ := choose_lt each
  obtain ⟨hs, sz, hent⟩ := ent_of (W := W) (a := a) (vs := (List.range len).map V) (by
    intro e
    have := congrArg List.length e
    simp at this; omega) (by
    intro j u hu
    rw [List.getElem?_map] at hu
    cases hj : (List.range len)[j]? with
    | none => rw [hj] at hu; cases hu
    | some j' =>
      rw [hj] at hu
      obtain ⟨h1, h2⟩ := List.getElem?_eq_some_iff.1 hj
      have h1 : j < len := by simpa using h1
      simp only [List.getElem_range] at h2
      subst h2
      cases hu
      exact (hx j (by omega)).1)
  refine ⟨some ⟨a.block, a.off, sz, (List.range len).map fun j => (q j).2.1⟩, (List.range len).map fun j => (q j).1, .slice (some ⟨0, 0, none⟩) len cap, (List.range len).map fun j => (q j).2.2, fun j => (q j).2.1, ⟨by simp, (fun a n c e => by cases e; simp), ?_, ?_, ?_⟩⟩
  · intro L h0 hL
    have hLj : ∀ j, j < len → L[k + j]? = some (q j).1 := by
      intro j hj
      rw [hL j (by simpa using hj)]
      simp [hj]
    refine ⟨fun e he => ?_, fun j e he => ?_⟩
    · cases he
      refine hent (inB L) _ ⟨by simp, fun j u u' hu hu' => ?_⟩
      rw [List.getElem?_map] at hu hu'
      cases hj : (List.range len)[j]? with
      | none => rw [hj] at hu; cases hu
      | some j' =>
        rw [hj] at hu hu'
        obtain ⟨h1, h2⟩ := List.getElem?_eq_some_iff.1 hj
        have h1 : j < len := by simpa using h1
        simp only [List.getElem_range] at h2
        subst h2
        cases hu; cases hu'
        exact (hq j h1).vr L (hLj j h1)
    · have hj : j < len := by
        apply Nat.lt_of_not_le; intro hn
        rw [List.getElem?_eq_none (by simpa using hn)] at he; cases he
      have he : some (q j).1 = some (some e) := by rw [← he]; simp [hj]
      exact (hq j hj).ok e (Option.some.inj he) L
  · intro L hL
    exact .sl len cap hcap hl (.inr (AR_in hL rfl rfl hs))
  · intro L hLb h0 hL
    have hLj : ∀ j, j < len → L[k + j]? = some (q j).1 := by
      intro j hj
      rw [hL j (by simpa using hj)]
      simp [hj]
    refine ⟨⟨some ⟨0, 0, none⟩, cap, by simp, fun _ => ⟨by omega, 0, 0, ⟨0, 0, false, (List.range len).map fun j => (q j).2.1⟩, rfl, ?_, fun j hj => ?_⟩⟩, fun j hj => ?_⟩
    · rw [inH_get L hLb, h0]
    · have hj' : j < len := by simpa using hj
      simp [hj']
    · have hj' : j < len := by simpa using hj
      simp only [List.getElem_map, List.getElem_range]
      exact (hq j hj').rd L hLb (hLj j hj')

/- a slice that nobody reads -/
theorem open_len {Hd : Type} {enc : TypeId × Value → Hd} {P : Program} {t e : TypeId} {W : World} {sp : Nat → Bool} {held : Bool} {a : Option Addr} {n c : Nat} {d : DataW Hd} {ps : List MemPlace} (hto : P.underlying t = some (.slice e)) (h : DataW.Trod enc P W 0 sp held t (.slice a n c) d ps) (i : Nat) :
    ∃ pa, ∀ L : InL, L[i]? = some none → VR (inB L) (.slice pa n c) (.slice a n c) := by
  obtain ⟨fuel, hfu⟩ := h
  rcases open_slice hto hfu with ⟨hcs, _⟩ | ⟨a', len, cap, m, n', D, Pl, hcs, _, hl, hm, _⟩
  · simp only [Value.cells, List.cons.injEq, and_true, Value.slice.injEq] at hcs
    obtain ⟨rfl, rfl, rfl⟩ := hcs
    exact ⟨none, fun L _ => VR.nils 0 0 (by decide)⟩
  · simp only [Value.cells, List.cons.injEq, and_true, Value.slice.injEq] at hcs
    obtain ⟨rfl, rfl, rfl⟩ := hcs
    have hcap : c < openCap := by unfold maxLen at hm; unfold openCap; omega
    exact ⟨some ⟨i, 0, none⟩, fun L hL => VR.sl n c hcap hl (.inr (AR_dead hL))⟩
end Go.Am.T
