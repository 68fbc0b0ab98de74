/- The run of a drawing region in the text's order: its lists; what a ready operation sees. Conditions: those of each theorem. -/
import Derived.Test.YthanhcpnhionaaaAmDrawB
set_option linter.all false
set_option linter.unusedSimpArgs false
set_option linter.unusedVariables false
namespace Go.Am
open Go.RowKit

section
variable {P : Program} {cl : Cl} {ops : Array Oper} {b : Array Nat} {r0 : Nat} {T : Nat → DS} {N : Nat}

theorem chB_step (h : Tra P cl ops b r0 T N) {i : Nat} (hi : i < ops.size) (hc : chB ops T i = true) :
    wantedA ops[i] ops (T i).s = true ∧ kdA ops[i] = .chain ∧ (T i).cs.all (ancA b i) = true ∧ ∃ s',
      doOp P cl ops[i] { (T i).s with H := layA r0 (T i).s.H ((T i).A.filter fun p => ancA b i p.1) } = some (.normal, s') ∧
      ((T i).rd.all fun (k, ok, sk, v) => ancA b i k || (match readsA P r0 b ((T i).A.filter fun p => !ancA b i p.1) k ok sk s'.H with | some u => veq u v | none => false)) = true ∧
      T (i + 1) = { s := s', A := (T i).A.filter fun p => !ancA b i p.1, hist := (T i).s.H :: (T i).hist, cs := i :: (T i).cs, rd := (T i).rd } := by
  unfold chB at hc
  rw [op_at hi] at hc
  simp only [Bool.and_eq_true, beq_iff_eq] at hc
  cases h.step i _ (op_at hi) with
  | dis hw hy => rw [hw] at hc; cases hc.1
  | qui hw hk => rw [hk] at hc; cases hc.2
  | all hw hk => rw [hk] at hc; cases hc.2
  | rea hw hk => rw [hk] at hc; cases hc.2
  | cha hw hk hcs s' h' hrd hy => exact ⟨hw, hk, hcs, s', h', hrd, hy⟩

theorem Tra.hist (h : Tra P cl ops b r0 T N) : ∀ i, i ≤ ops.size → (T i).hist.length = (T i).cs.length ∧ (∀ k c : Nat, (T i).cs[k]? = some c → (T i).hist[k]? = some (T c).s.H) ∧
    (∀ k l c d : Nat, k < l → (T i).cs[k]? = some c → (T i).cs[l]? = some d → d < c)
  | 0, _ => by rw [h.h0, h.c0]; exact ⟨rfl, fun k c hk => by simp at hk, fun k l c d _ hk => by simp at hk⟩
  | i + 1, hi => by
    obtain ⟨h1, h2, h3⟩ := Tra.hist h i (by omega)
    cases hc : chB ops T i with
    | false =>
      obtain ⟨_, _, k3, k4⟩ := h.still (by omega) hc
      rw [k3, k4]
      exact ⟨h1, h2, h3⟩
    | true =>
      obtain ⟨_, _, _, s', _, _, hT⟩ := chB_step h (by omega) hc
      rw [hT]
      refine ⟨by simp [h1], fun k c hk => ?_, fun k l c d hkl hk hl => ?_⟩
      · cases k with
        | zero => simp at hk; subst hk; rfl
        | succ k => exact h2 k c (by simpa using hk)
      · cases l with
        | zero => omega
        | succ l =>
          have hd : (T i).cs[l]? = some d := by simpa using hl
          cases k with
          | zero =>
            simp at hk
            subst hk
            exact ((h.mem_cs i (by omega) d).1 (List.mem_of_getElem? hd)).1
          | succ k => exact h3 k l c d (by omega) (by simpa using hk) hd

theorem backA_spec {A : List (Nat × Blk)} {i : Nat} {o : Oper} {s : St} {v : Value} : ∀ (cs : List Nat) (hs : List Heap), backA P r0 b A i o s v cs hs = true →
    ∀ (k c : Nat) (H : Heap), cs[k]? = some c → hs[k]? = some H → (∀ l c' : Nat, l ≤ k → cs[l]? = some c' → ancA b i c' = false) → ∃ u, readsA P r0 b A i o s H = some u ∧ u = v
  | [], hs, _, k, c, H, hc, _, _ => by simp at hc
  | c0 :: cs, [], _, k, c, H, _, hh, _ => by simp at hh
  | c0 :: cs, H0 :: hs, hb, k, c, H, hc, hh, hall => by
    simp only [backA] at hb
    have h0 := hall 0 c0 (by omega) rfl
    simp only [h0, Bool.false_eq_true, if_false, Bool.and_eq_true] at hb
    cases k with
    | zero =>
      simp at hc hh
      subst hc hh
      cases hr : readsA P r0 b A i o s H0 with
      | none => rw [hr] at hb; simp at hb
      | some u => rw [hr] at hb; exact ⟨u, rfl, veq_eq u v hb.1⟩
    | succ k =>
      exact backA_spec cs hs hb.2 k c H (by simpa using hc) (by simpa using hh) fun l c' hl hc' => hall (l + 1) c' (by omega) (by simpa using hc')

/- WHAT THE TEXT SHOWS -/
structure OkD (ops : Array Oper) (b : Array Nat) : Prop where
  sel : ∀ i (hi : i < ops.size) cs q, ops[i].op ≠ .select cs q
  back : ∀ i (hi : i < ops.size), ∀ e ∈ ops[i].after, Region.binds .any e = true → e.on < i
  anc : ∀ i (hi : i < ops.size) k, k < ops.size → ancA b i k = true → ∃ e ∈ ops[i].after, Region.binds .any e = true ∧ (e.on = k ∨ ancA b e.on k = true)
  apart : ∀ i (hi : i < ops.size) k (hk : k < i), ancA b i k = true ∨ (ops[k]'(by omega)).apart ops ops[i] = true

theorem okD_spec (h : okD ops = true) : OkD ops (Region.before ops) := by
  unfold okD at h
  simp only [List.all_eq_true, List.mem_range] at h
  have key : ∀ i (hi : i < ops.size),
      ((match ops[i].op with | .select _ _ => false | _ => true) = true ∧ (∀ e ∈ ops[i].after.toList, (!Region.binds .any e || decide (e.on < i)) = true)) ∧
      (∀ k, k < ops.size → (!ancA (Region.before ops) i k || ops[i].after.toList.any fun e => Region.binds .any e && (e.on == k || ancA (Region.before ops) e.on k)) = true) ∧
      (∀ k, k < i → (ancA (Region.before ops) i k || match ops[k]? with | some ok => ok.apart ops ops[i] | none => false) = true) := by
    intro i hi
    have hh := h i hi
    rw [op_at hi] at hh
    simp only [Bool.and_eq_true, List.all_eq_true, List.mem_range] at hh
    exact ⟨⟨hh.1.1.1, hh.1.1.2⟩, hh.1.2, hh.2⟩
  refine ⟨fun i hi cs q e => ?_, fun i hi e he hb => ?_, fun i hi k hk ha => ?_, fun i hi k hk => ?_⟩
  · have := (key i hi).1.1
    rw [e] at this
    cases this
  · have := (key i hi).1.2 e (by simpa using he)
    simpa [hb] using this
  · have := (key i hi).2.1 k hk
    rw [ha] at this
    simp only [Bool.not_true, Bool.false_or, List.any_eq_true, Bool.and_eq_true, Bool.or_eq_true, beq_iff_eq] at this
    obtain ⟨e, he, h1, h2⟩ := this
    exact ⟨e, by simpa using he, h1, h2⟩
  · have := (key i hi).2.2 k hk
    rw [op_at (show k < ops.size by omega)] at this
    simpa using this

theorem OkD.lt (h : OkD ops b) : ∀ i, i < ops.size → ∀ k, k < ops.size → ancA b i k = true → k < i := by
  intro i
  induction i using Nat.strongRecOn with
  | _ i ih =>
    intro hi k hk ha
    obtain ⟨e, he, h1, h2⟩ := h.anc i hi k hk ha
    have hlt := h.back i hi e he h1
    rcases h2 with rfl | h2
    · exact hlt
    · have := ih e.on hlt (by omega) k hk h2; omega

/- a set of operations that holds what must be ahead of each -/
def Closed (ops : Array Oper) (D : Nat → Bool) : Prop := ∀ j (hj : j < ops.size), D j = true → ∀ e ∈ ops[j].after, Region.binds .any e = true → D e.on = true

theorem OkD.closed (h : OkD ops b) {D : Nat → Bool} (hD : Closed ops D) : ∀ i (hi : i < ops.size), (∀ e ∈ ops[i].after, Region.binds .any e = true → D e.on = true) →
    ∀ k, k < ops.size → ancA b i k = true → D k = true := by
  intro i
  induction i using Nat.strongRecOn with
  | _ i ih =>
    intro hi hed k hk ha
    obtain ⟨e, he, h1, h2⟩ := h.anc i hi k hk ha
    have hlt := h.back i hi e he h1
    rcases h2 with rfl | h2
    · exact hed e he h1
    · have hDe := hed e he h1
      have hes : e.on < ops.size := by omega
      exact ih e.on hlt hes (hD e.on hes hDe) k hk h2

/- operation i is ready: not in the set, all that must be ahead is -/
structure Rdy (ops : Array Oper) (b : Array Nat) (D : Nat → Bool) (i : Nat) : Prop where
  ok : OkD ops b
  cl : Closed ops D
  hi : i < ops.size
  no : D i = false
  ed : ∀ e ∈ (ops[i]'hi).after, Region.binds .any e = true → D e.on = true

theorem Rdy.anc {D : Nat → Bool} {i : Nat} (h : Rdy ops b D i) {k : Nat} (hk : k < ops.size) (ha : ancA b i k = true) : D k = true := h.ok.closed h.cl i h.hi h.ed k hk ha
theorem Rdy.not {D : Nat → Bool} {i : Nat} (h : Rdy ops b D i) {j : Nat} (hj : j < ops.size) (hD : D j = true) : j ≠ i ∧ ancA b j i = false := by
  constructor
  · intro e; subst e; rw [h.no] at hD; cases hD
  · cases ha : ancA b j i with
    | false => rfl
    | true => have := h.ok.closed h.cl j hj (h.cl j hj hD) i h.hi ha; rw [h.no] at this; cases this

/- with the operation -/
def plus (D : Nat → Bool) (i : Nat) : Nat → Bool := fun j => if j = i then true else D j

variable {D : Nat → Bool} {i : Nat}

/- a slot that the ready operation looks at holds what it held in the text's run -/
theorem Rdy.slot (h : Rdy ops b D i) (ht : Tra P cl ops b r0 T N) {t : Tmp} (hl : t ∈ (ops[i]'h.hi).looksAt ops) : cur ops T D ops.size t = (T i).s.slot t := by
  have up : ∀ d, i + d ≤ ops.size → cur ops T D (i + d) t = cur ops T D i t := by
    intro d
    induction d with
    | zero => intro _; rfl
    | succ d ih =>
      intro hd
      rw [show i + (d + 1) = (i + d) + 1 by omega]
      simp only [cur, op_at (show i + d < ops.size by omega), Option.bind_some]
      rw [if_neg, ih (by omega)]
      rintro ⟨hD, hdst⟩
      obtain ⟨h1, h2⟩ := h.not (by omega) hD
      rcases h.ok.apart (i + d) (by omega) i (by omega) with ha | ha
      · rw [h2] at ha; cases ha
      · exact (Oper.apart_spec ha).2.2 t hdst hl
  have down : ∀ k, k ≤ i → cur ops T D k t = cur ops T (fun _ => true) k t := by
    intro k
    induction k with
    | zero => intro _; rfl
    | succ k ih =>
      intro hk
      have hi := h.hi
      have hks : k < ops.size := by omega
      simp only [cur, op_at hks, Option.bind_some, true_and]
      by_cases hdst : (ops[k]).dst = some t
      · have hDk : D k = true := by
          rcases h.ok.apart i h.hi k (by omega) with ha | ha
          · exact h.anc hks ha
          · exact absurd hl ((Oper.apart_spec ha).1 t hdst)
        simp only [hDk, hdst, and_self, if_true]
      · rw [if_neg (fun q => hdst q.2), if_neg hdst]
        exact ih (by omega)
  have hi := h.hi
  have e1 := up (ops.size - i) (by omega)
  rw [show i + (ops.size - i) = ops.size by omega] at e1
  rw [e1, down i (Nat.le_refl _), ← ht.cur i (by omega) t]

/- the slots behind the operation -/
theorem Rdy.plus (h : Rdy ops b D i) (t : Tmp) : cur ops T (Am.plus D i) ops.size t = if (ops[i]'h.hi).dst = some t then (T (i + 1)).s.slot t else cur ops T D ops.size t := by
  have hi := h.hi
  split
  · rename_i hd
    have up : ∀ d, i + 1 + d ≤ ops.size → cur ops T (Am.plus D i) (i + 1 + d) t = (T (i + 1)).s.slot t := by
      intro d
      induction d with
      | zero => intro _; simp [cur, Am.plus, op_at hi, hd]
      | succ d ih =>
        intro hds
        rw [show i + 1 + (d + 1) = (i + 1 + d) + 1 by omega]
        simp only [cur, op_at (show i + 1 + d < ops.size by omega), Option.bind_some]
        rw [if_neg, ih (by omega)]
        rintro ⟨hD, hdst⟩
        have hD' : D (i + 1 + d) = true := by simpa [Am.plus, show ¬ (i + 1 + d = i) by omega] using hD
        obtain ⟨h1, h2⟩ := h.not (by omega) hD'
        rcases h.ok.apart (i + 1 + d) (by omega) i (by omega) with ha | ha
        · rw [h2] at ha; cases ha
        · exact (Oper.apart_spec ha).2.1 t hd hdst
    have := up (ops.size - (i + 1)) (by omega)
    rwa [show i + 1 + (ops.size - (i + 1)) = ops.size by omega] at this
  · rename_i hd
    have all : ∀ k, k ≤ ops.size → cur ops T (Am.plus D i) k t = cur ops T D k t := by
      intro k
      induction k with
      | zero => intro _; rfl
      | succ k ih =>
        intro hk
        simp only [cur, op_at (show k < ops.size by omega), Option.bind_some]
        by_cases e : k = i
        · subst e
          rw [if_neg (fun q => hd q.2), if_neg (fun q => hd q.2)]
          exact ih (by omega)
        · have e1 : Am.plus D i k = D k := by simp [Am.plus, e]
          rw [e1, ih (by omega)]
    exact all ops.size (Nat.le_refl _)

/- the chain's place -/
theorem Rdy.atChain (h : Rdy ops b D i) (ht : Tra P cl ops b r0 T N) (hc : chB ops T i = true) : mOf ops T D ops.size = mOf ops T (fun _ => true) i := by
  have hi := h.hi
  obtain ⟨_, _, hcs, _⟩ := chB_step ht h.hi hc
  have up : ∀ d, i + d ≤ ops.size → mOf ops T D (i + d) = mOf ops T D i := by
    intro d
    induction d with
    | zero => intro _; rfl
    | succ d ih =>
      intro hd
      rw [show i + (d + 1) = (i + d) + 1 by omega]
      simp only [mOf]
      rw [if_neg, ih (by omega)]
      rintro ⟨hD, hch⟩
      obtain ⟨h1, h2⟩ := h.not (by omega) hD
      obtain ⟨_, _, hcs2, _⟩ := chB_step ht (show i + d < ops.size by omega) hch
      have hmem : i ∈ (T (i + d)).cs := (ht.mem_cs (i + d) (by omega) i).2 ⟨by omega, hc⟩
      have := List.all_eq_true.1 hcs2 i hmem
      rw [h2] at this; cases this
  have down : ∀ k, k ≤ i → mOf ops T D k = mOf ops T (fun _ => true) k := by
    intro k
    induction k with
    | zero => intro _; rfl
    | succ k ih =>
      intro hk
      simp only [mOf, true_and]
      cases hch : chB ops T k with
      | true =>
        have hmem : k ∈ (T i).cs := (ht.mem_cs i (by omega) k).2 ⟨by omega, hch⟩
        have := h.anc (by omega) (List.all_eq_true.1 hcs k hmem)
        simp [this]
      | false => simp [ih (by omega)]
  have e1 := up (ops.size - i) (by omega)
  rw [show i + (ops.size - i) = ops.size by omega] at e1
  rw [e1, down i (Nat.le_refl _)]

theorem Rdy.plusChain (h : Rdy ops b D i) (ht : Tra P cl ops b r0 T N) (hc : chB ops T i = true) : mOf ops T (Am.plus D i) ops.size = i + 1 := by
  have hi := h.hi
  have up : ∀ d, i + 1 + d ≤ ops.size → mOf ops T (Am.plus D i) (i + 1 + d) = i + 1 := by
    intro d
    induction d with
    | zero => intro _; simp [mOf, Am.plus, hc]
    | succ d ih =>
      intro hd
      rw [show i + 1 + (d + 1) = (i + 1 + d) + 1 by omega]
      simp only [mOf]
      rw [if_neg, ih (by omega)]
      rintro ⟨hD, hch⟩
      have hD' : D (i + 1 + d) = true := by simpa [Am.plus, show ¬ (i + 1 + d = i) by omega] using hD
      obtain ⟨h1, h2⟩ := h.not (by omega) hD'
      obtain ⟨_, _, hcs2, _⟩ := chB_step ht (show i + 1 + d < ops.size by omega) hch
      have hmem : i ∈ (T (i + 1 + d)).cs := (ht.mem_cs (i + 1 + d) (by omega) i).2 ⟨by omega, hc⟩
      have := List.all_eq_true.1 hcs2 i hmem
      rw [h2] at this; cases this
  have := up (ops.size - (i + 1)) (by omega)
  rwa [show i + 1 + (ops.size - (i + 1)) = ops.size by omega] at this

theorem plusOther {D : Nat → Bool} {i : Nat} (hc : chB ops T i = false) : ∀ k, mOf ops T (plus D i) k = mOf ops T D k
  | 0 => rfl
  | k + 1 => by
    simp only [mOf, plusOther hc k]
    by_cases e : k = i
    · subst e; simp [hc]
    · simp [Am.plus, e]

/- pending blocks -/
theorem Tra.mem_A (h : Tra P cl ops b r0 T N) (ok : OkD ops b) : ∀ i, i ≤ ops.size → ∀ j x, (j, x) ∈ (T i).A ↔ j < i ∧ alB ops T j = true ∧ blkO P ops T j = some x ∧ ∀ c, c < i → chB ops T c = true → ancA b c j = false
  | 0, _, j, x => by rw [h.A0]; simp
  | i + 1, hi, j, x => by
    have ih := Tra.mem_A h ok i (by omega) j x
    have hst := h.step i _ (op_at (show i < ops.size by omega))
    have hne : ∀ (hch : chB ops T i = false) (hal : alB ops T i = false) (hA : (T (i + 1)).A = (T i).A), (j, x) ∈ (T (i + 1)).A ↔ j < i + 1 ∧ alB ops T j = true ∧ blkO P ops T j = some x ∧ ∀ c, c < i + 1 → chB ops T c = true → ancA b c j = false := by
      intro hch hal hA
      rw [hA, ih]
      constructor
      · rintro ⟨a1, a2, a3, a4⟩
        refine ⟨by omega, a2, a3, fun c hc hcc => ?_⟩
        by_cases e : c = i
        · subst e; rw [hch] at hcc; cases hcc
        · exact a4 c (by omega) hcc
      · rintro ⟨a1, a2, a3, a4⟩
        have : j ≠ i := by intro e; subst e; rw [hal] at a2; cases a2
        exact ⟨by omega, a2, a3, fun c hc hcc => a4 c (by omega) hcc⟩
    cases hst with
    | dis hw hy =>
      refine hne ?_ ?_ (by rw [hy])
      · simp [chB, op_at (show i < ops.size by omega), hw]
      · simp [alB, op_at (show i < ops.size by omega), hw]
    | qui hw hk v H1 h' hy =>
      refine hne ?_ ?_ (by rw [hy])
      · simp [chB, op_at (show i < ops.size by omega), hk]
      · simp [alB, op_at (show i < ops.size by omega), hk]
    | rea hw hk v h' hb hy =>
      refine hne ?_ ?_ (by rw [hy])
      · simp [chB, op_at (show i < ops.size by omega), hk]
      · simp [alB, op_at (show i < ops.size by omega), hk]
    | all hw hk r h' hy =>
      rw [hy]
      have hch : chB ops T i = false := by simp [chB, op_at (show i < ops.size by omega), hk]
      have hal : alB ops T i = true := by simp [alB, op_at (show i < ops.size by omega), hk, hw]
      have hbl : blkO P ops T i = some r.2 := by simp [blkO, op_at (show i < ops.size by omega), h']
      simp only [List.mem_append, ih, List.mem_singleton, Prod.mk.injEq]
      constructor
      · rintro (⟨a1, a2, a3, a4⟩ | ⟨rfl, rfl⟩)
        · refine ⟨by omega, a2, a3, fun c hc hcc => ?_⟩
          by_cases e : c = i
          · subst e; rw [hch] at hcc; cases hcc
          · exact a4 c (by omega) hcc
        · refine ⟨by omega, hal, hbl, fun c hc hcc => ?_⟩
          cases ha : ancA b c j with
          | false => rfl
          | true =>
            have := ok.lt c (by omega) j (by omega) ha
            omega
      · rintro ⟨a1, a2, a3, a4⟩
        by_cases e : j = i
        · right
          subst e
          rw [hbl] at a3
          exact ⟨rfl, by simpa using a3.symm⟩
        · exact .inl ⟨by omega, a2, a3, fun c hc hcc => a4 c (by omega) hcc⟩
    | cha hw hk hcs s' h' hrd hy =>
      rw [hy]
      have hch : chB ops T i = true := by simp [chB, op_at (show i < ops.size by omega), hk, hw]
      have hal : alB ops T i = false := by simp [alB, op_at (show i < ops.size by omega), hk]
      simp only [List.mem_filter, ih, Bool.not_eq_true']
      constructor
      · rintro ⟨⟨a1, a2, a3, a4⟩, a5⟩
        refine ⟨by omega, a2, a3, fun c hc hcc => ?_⟩
        by_cases e : c = i
        · subst e; exact a5
        · exact a4 c (by omega) hcc
      · rintro ⟨a1, a2, a3, a4⟩
        have : j ≠ i := by intro e; subst e; rw [hal] at a2; cases a2
        exact ⟨⟨by omega, a2, a3, fun c hc hcc => a4 c (by omega) hcc⟩, a4 i (by omega) hch⟩

/- readings that were done stand in the list -/
theorem Tra.mem_rd (h : Tra P cl ops b r0 T N) {k : Nat} {q : Nat × Oper × St × Value} (hq : q ∈ (T k).rd) : ∀ d, k + d ≤ ops.size → q ∈ (T (k + d)).rd
  | 0, _ => hq
  | d + 1, hd => by
    have ih := Tra.mem_rd h hq d (by omega)
    show q ∈ (T (k + d + 1)).rd
    cases h.step (k + d) _ (op_at (show k + d < ops.size by omega)) with
    | dis hw hy => rw [hy]; exact ih
    | qui hw hk v H1 h' hy => rw [hy]; exact ih
    | all hw hk r h' hy => rw [hy]; exact ih
    | rea hw hk v h' hb hy => rw [hy]; exact List.mem_cons_of_mem _ ih
    | cha hw hk hcs s' h' hrd hy => rw [hy]; exact ih

end
end Go.Am
