/- Appends of several elements; lists of acts and of tasks made by a law; what is read of a run. Conditions: those of each theorem. -/
import Derived.Test.YthanhcpnhionaaaSdIn
set_option linter.all false
set_option linter.unusedSimpArgs false
set_option linter.unusedVariables false
namespace Go.Am.T
open Go Go.Am Go.Proofs.Ythanhcpnhionaaa Go.Proofs

theorem appS_ownM {p : Nat → Prop} {H : Heap} {es ty bytes : Nat} {n m : Nat} {cs vs : List Value} {nb : Nat} {x : Blk} {a : Option Addr} {c : Nat} (h : OwnL p H es ty (.slice a n c) n cs) (hn : H.get nb = some x) (hx : x.cells = vs) (hl : vs.length = m * es) (h0 : es ≠ 0) (hm : m ≠ 0)
    (ho : vs.all Heap.oneC = true) (hb : 4 * (n + m) * bytes + 4096 ≤ 2 ^ 47) (hb2 : n + m ≤ 2 ^ 47) :
    appS H ty es bytes a n c (.slice (some ⟨nb, 0, none⟩) m m) = some (.slice (some ⟨H.next, 0, none⟩) (n + m) openCap, (delV H (.slice a n c)).alloc ⟨ty, es, true, cs ++ vs⟩) := by
  subst hx
  have hf : firstA H es m (.slice (some ⟨nb, 0, none⟩) m m) = some x.cells := by
    show (if m = 0 then some [] else if m = 0 then none else H.loads ⟨nb, 0, none⟩ (m * es)) = _
    rw [if_neg hm, if_neg hm, loads_eq, hn, Option.bind_some, if_pos (by omega)]
    simp [← hl]
  have hme : es ≤ m * es := Nat.le_mul_of_pos_left es (by omega)
  rcases h with ⟨h1, h2, h3⟩ | ⟨b, o, pre, h1, h2, h3, h4, h5, h6⟩
  · cases h1; subst h3
    unfold appS
    simp only [lengthA, Option.bind_eq_bind, Option.bind_some, hf]
    have hb' := hb
    rw [Nat.zero_add] at hb'
    have e1 : ¬ (4 * (0 + m) * bytes + 4096 > 2 ^ 47 || (0 + m > 2 ^ 47)) = true := by rw [Nat.zero_add]; simp; omega
    rw [if_pos (show 0 ≠ openCap by unfold openCap; omega), if_neg (by omega), if_neg e1]
    simp [firstA, delV, next_delV]
  · cases h1
    unfold appS
    simp only [lengthA, Option.bind_eq_bind, Option.bind_some, hf]
    rw [if_neg (by simp)]
    have e1 : ¬ (4 * (n + m) * bytes + 4096 > 2 ^ 47 || (n + m > 2 ^ 47)) = true := by simp; omega
    have e2 : o + (n + m) * es ≤ (pre ++ cs).length ↔ False := by
      simp only [List.length_append, h5, h6, Nat.add_mul, iff_false]; omega
    have e3 : ¬ ((o + n * es ≠ (pre ++ cs).length || !x.cells.all Heap.oneC) = true) := by
      simp [h5, h6, ho]
    have e4 : ¬ (b < base0) := by omega
    simp only [Option.isSome_none, Bool.false_or, h4, Option.bind_some, ne_eq, not_true_eq_false, decide_false, Bool.not_true, Bool.false_eq_true, if_false, hm, e2, e4]
    simp only [ne_eq] at e3
    rw [if_neg e3, if_neg e1]
    simp [delV, ← h5]

theorem appOM {H0 H : Heap} (hE : Ext H0 H) {es ty bytes n m c : Nat} {a : Option Addr} {cs vs : List Value} (h : OwnL (fun b => H0.next ≤ b) H es ty (.slice a n c) n cs) {nb : Nat} {x : Blk} (hn : H.get nb = some x) (hx : x.cells = vs) (hl : vs.length = m * es) (h0 : es ≠ 0) (hm : m ≠ 0)
    (ho : vs.all Heap.oneC = true) (hb : 4 * (n + m) * bytes + 4096 ≤ 2 ^ 47) (hb2 : n + m ≤ 2 ^ 47) :
    ∃ H6, appS H ty es bytes a n c (.slice (some ⟨nb, 0, none⟩) m m) = some (.slice (some ⟨H.next, 0, none⟩) (n + m) openCap, H6) ∧ Ext H0 H6 ∧
      OwnL (fun b => H0.next ≤ b) H6 es ty (.slice (some ⟨H.next, 0, none⟩) (n + m) openCap) (n + m) (cs ++ vs) ∧ H6.next = H.next + 1 ∧
      ∀ b x, H.get b = some x → x.opn = false ∨ x.ty ≠ ty → H6.get b = some x := by
  refine ⟨_, appS_ownM h hn hx hl h0 hm ho hb hb2, Ext.app hE h _, ?_, ?_, ?_⟩
  · refine .inr ⟨H.next, 0, [], rfl, hE.wf.1, hE.le, ?_, rfl, ?_⟩
    · rw [get_alloc_at (by rw [next_delV]; exact hE.wf.1) (by rw [next_delV])]; rfl
    · simp [h.len, hl, Nat.add_mul]
  · show (delV H _).next + 1 = _
    rw [next_delV]
  · intro b y hb hy
    have hlt := hE.wf.lt hb
    rw [get_alloc_ne (by rw [next_delV]; omega)]
    rcases h with ⟨e, _⟩ | ⟨b', o, pre, e, _, _, h4, _⟩
    · simp only [Value.slice.injEq] at e
      obtain ⟨rfl, _⟩ := e
      exact hb
    · simp only [Value.slice.injEq] at e
      obtain ⟨rfl, _⟩ := e
      show (H.del b').get b = _
      rw [get_del_ne]
      · exact hb
      · intro e2; subst e2; rw [h4] at hb; cases hb
        rcases hy with hy | hy
        · cases hy
        · exact hy rfl

/- cells of acts -/
def actC : List Act → List Value
  | [] => []
  | a :: l => a.cells ++ actC l
theorem actC_app (l m : List Act) : actC (l ++ m) = actC l ++ actC m := by
  induction l with
  | nil => rfl
  | cons a l ih => simp [actC, ih]
theorem actC_len (l : List Act) : (actC l).length = l.length * 4 := by
  induction l with
  | nil => rfl
  | cons a l ih => simp only [actC, List.length_append, ih, List.length_cons]; show 4 + _ = _; omega
theorem actC_one (l : List Act) : (actC l).all Heap.oneC = true := by
  induction l with
  | nil => rfl
  | cons a l ih => simp only [actC, List.all_append, ih, Bool.and_true]; exact ac_one
theorem actC_at (l : List Act) : ∀ (i : Nat) (h : i < l.length), ((actC l).drop (i * 4)).take 4 = (l[i]).cells := by
  induction l with
  | nil => intro i h; cases h
  | cons a l ih =>
    intro i h
    cases i with
    | zero => simp only [actC, Nat.zero_mul, List.drop_zero]; exact List.take_left' rfl
    | succ i =>
      have e : (i + 1) * 4 = a.cells.length + i * 4 := by show _ = 4 + _; omega
      simp only [actC]
      rw [e, List.drop_length_add_append, ih i (by simpa using h)]
      rfl
theorem OwnL.acts {p : Nat → Prop} {H : Heap} {v : Value} {n : Nat} {l : List Act} (h : OwnL p H 4 47 v n (actC l)) : ActsAt H v l := by
  have hn : n = l.length := by have := h.len; rw [actC_len] at this; omega
  subst hn
  rcases h with ⟨rfl, h2, _⟩ | ⟨b, o, pre, rfl, _, _, h4, h5, _⟩
  · exact ⟨none, 0, by rw [h2], fun hl => absurd (List.eq_nil_of_length_eq_zero h2) hl⟩
  · refine ⟨some ⟨b, o, none⟩, openCap, rfl, fun _ => ⟨by unfold openCap; omega, b, o, _, rfl, h4, fun i hi => ?_⟩⟩
    subst h5
    constructor
    · simp only [List.length_append, actC_len]; omega
    · rw [List.drop_length_add_append]
      exact actC_at l i hi

/- tasks that a law has made -/
structure MadeT (H0 H : Heap) (tv : Value) (ts : List (List Act)) (av : Nat → Value) : Prop where
  ext : Ext H0 H
  out : OwnL (fun b => H0.next ≤ b) H 1 45 tv ts.length ((List.range ts.length).map av)
  acts : ∀ i (h : i < ts.length), OwnL (fun b => H0.next ≤ b) H 4 47 (av i) ts[i].length (actC ts[i])
theorem MadeT.tasks {H0 H : Heap} {tv : Value} {ts : List (List Act)} {av : Nat → Value} (h : MadeT H0 H tv ts av) : TasksAt H tv ts av :=
  ⟨h.out.rd, fun i hi => (h.acts i hi).acts⟩
theorem MadeT.nil {H0 H : Heap} {av : Nat → Value} (h : Ext H0 H) : MadeT H0 H (.slice none 0 0) [] av := ⟨h, .inl ⟨rfl, rfl, rfl⟩, fun i hi => absurd hi (by simp)⟩
theorem MadeT.of {H0 H H' : Heap} {tv : Value} {ts : List (List Act)} {av : Nat → Value} (h : MadeT H0 H tv ts av) (e : Ext H H') : MadeT H0 H' tv ts av :=
  ⟨h.ext.trans e, h.out.frame fun b x hb hg => ⟨hb, e.of h.ext.wf hg⟩, fun i hi => (h.acts i hi).frame fun b x hb hg => ⟨hb, e.of h.ext.wf hg⟩⟩

/- one more task: 'append(tasks, l)'; the new element lies in a block of one cell -/
theorem MadeT.push {H0 H : Heap} {a : Option Addr} {c : Nat} {ts : List (List Act)} {av : Nat → Value} (h : MadeT H0 H (.slice a ts.length c) ts av) {l : List Act} {lv : Value} (hl : OwnL (fun b => H0.next ≤ b) H 4 47 lv l.length (actC l)) {nb : Nat}
    (hn : H.get nb = some ⟨45, 0, false, [lv]⟩) (hb : ts.length ≤ 65536) :
    ∃ H6 tv', appS H 45 1 24 a ts.length c (.slice (some ⟨nb, 0, none⟩) 1 1) = some (tv', H6) ∧ MadeT H0 H6 tv' (ts ++ [l]) (upd av ts.length lv) := by
  obtain ⟨la, lc, rfl⟩ := hl.sl
  obtain ⟨H6, h1, h2, h3, h4, h5⟩ := appO (bytes := 24) h.ext h.out hn rfl rfl (by omega) rfl (by omega) (by omega)
  refine ⟨H6, _, h1, h2, ?_, ?_⟩
  · have e : (List.range (ts ++ [l]).length).map (upd av ts.length (.slice la l.length lc)) = (List.range ts.length).map av ++ [.slice la l.length lc] := by
      rw [List.length_append]
      show (List.range (ts.length + 1)).map _ = _
      rw [List.range_succ, List.map_append]
      have : (List.range ts.length).map (upd av ts.length (.slice la l.length lc)) = (List.range ts.length).map av := by
        apply List.map_congr_left
        intro j hj
        exact upd_ne (by have := List.mem_range.1 hj; omega)
      rw [this]
      simp [upd_same]
    rw [e, List.length_append]
    exact h3
  · intro i hi
    by_cases e : i = ts.length
    · subst e
      rw [upd_same]
      simp only [List.getElem_append_right (Nat.le_refl _), Nat.sub_self, List.getElem_cons_zero]
      exact hl.frameO fun b x hb hg hx => ⟨hb, h5 b x hg (.inr (by rw [hx.2]; decide))⟩
    · have hi' : i < ts.length := by simp at hi; omega
      rw [upd_ne e]
      simp only [List.getElem_append_left hi']
      exact (h.acts i hi').frameO fun b x hb hg hx => ⟨hb, h5 b x hg (.inr (by rw [hx.2]; decide))⟩

/- acts in a literal slice -/
theorem three_acts {a b c : Act} : actC [a, b, c] = [.int .i64 a.k, .int .i64 a.a, .int .i64 a.b, .int .i64 a.n, .int .i64 b.k, .int .i64 b.a, .int .i64 b.b, .int .i64 b.n, .int .i64 c.k, .int .i64 c.a, .int .i64 c.b, .int .i64 c.n] := rfl
theorem two_acts {a b : Act} : actC [a, b] = [.int .i64 a.k, .int .i64 a.a, .int .i64 a.b, .int .i64 a.n, .int .i64 b.k, .int .i64 b.a, .int .i64 b.b, .int .i64 b.n] := rfl
theorem one_act {a : Act} : actC [a] = [.int .i64 a.k, .int .i64 a.a, .int .i64 a.b, .int .i64 a.n] := rfl
/- 'append(l, acts..)': the acts in a new block -/
theorem pushActs {G G2 : Heap} {la : Option Addr} {lc m : Nat} {ls new : List Act} {cells : List Value} (hE : Ext G G2) (h : OwnL (fun b => G.next ≤ b) G2 4 47 (.slice la ls.length lc) ls.length (actC ls)) (hc : cells = actC new) (hm : m = new.length) (h0 : new ≠ [])
    (hb : ls.length + new.length ≤ 1000000) :
    ∃ H6 lv', appS (G2.alloc ⟨47, 0, false, cells⟩) 47 4 32 la ls.length lc (.slice (some ⟨G2.next, 0, none⟩) m m) = some (lv', H6) ∧ Ext G H6 ∧ OwnL (fun b => G.next ≤ b) H6 4 47 lv' (ls ++ new).length (actC (ls ++ new)) := by
  subst hc hm
  have hm0 : new.length ≠ 0 := fun e => h0 (List.eq_nil_of_length_eq_zero e)
  obtain ⟨H6, h1, h2, h3, _, _⟩ := appOM (bytes := 32) (x := ⟨47, 0, false, actC new⟩) (hE.alloc _) (h.frame (p' := fun b => G.next ≤ b) fun b x hb hg => ⟨hb, ((Ext.refl hE.wf).alloc _).of hE.wf hg⟩) (get_alloc_eq hE.wf.1) rfl (actC_len new) (by omega) hm0 (actC_one new) (by omega) (by omega)
  refine ⟨H6, _, h1, h2, ?_⟩
  rw [List.length_append, actC_app]
  exact h3
end Go.Am.T
