/- Lemmas for the theorem of the last text: parts AmDrawC to AmOpsW of it. Conditions: those of each theorem. -/
import Derived.Test.YthanhcpnhionaaaAlA
set_option linter.all false
set_option linter.unusedSimpArgs false
set_option linter.unusedVariables false
namespace Go.Am
open Go.RowKit
section
variable {P : Program} {cl : Cl} {ops : Array Oper} {b : Array Nat} {r0 : Nat} {T : Nat → DS} {N : Nat}
theorem chB_step (h : Tra P cl ops b r0 T N) {i : Nat} (hi : i < ops.size) (hc : chB ops T i = true) :
    wantedA ops[i] ops (T i).s = true ∧ kdA ops[i] = .chain ∧ (T i).cs.all (ancA b i) = true ∧ ∃ s',
      doOp P cl ops[i] { (T i).s with H := layA r0 (T i).s.H ((T i).A.filter fun p => ancA b i p.1) } = some (.normal, s') ∧
      ((T i).rd.all fun (k, ok, sk, v) => ancA b i k || (match readsA P r0 b ((T i).A.filter fun p => !ancA b i p.1) k ok sk s'.H with | some u => veq u v | none => false)) = true ∧
      T (i + 1) = { s := s', A := (T i).A.filter fun p => !ancA b i p.1, hist := (T i).s.H :: (T i).hist, cs := i :: (T i).cs, rd := (T i).rd } := by
  unfold chB at hc
  rw [op_at hi] at hc
  simp only [Bool.and_eq_true, beq_iff_eq] at hc
  cases h.step i _ (op_at hi) with
  | dis hw hy => rw [hw] at hc; cases hc.1
  | qui hw hk => rw [hk] at hc; cases hc.2
  | all hw hk => rw [hk] at hc; cases hc.2
  | rea hw hk => rw [hk] at hc; cases hc.2
  | cha hw hk hcs s' h' hrd hy => exact ⟨hw, hk, hcs, s', h', hrd, hy⟩
theorem Tra.hist (h : Tra P cl ops b r0 T N) : ∀ i, i ≤ ops.size → (T i).hist.length = (T i).cs.length ∧ (∀ k c : Nat, (T i).cs[k]? = some c → (T i).hist[k]? = some (T c).s.H) ∧
    (∀ k l c d : Nat, k < l → (T i).cs[k]? = some c → (T i).cs[l]? = some d → d < c)
  | 0, _ => by rw [h.h0, h.c0]; exact ⟨rfl, fun k c hk => by simp at hk, fun k l c d _ hk => by simp at hk⟩
  | i + 1, hi => by
    obtain ⟨h1, h2, h3⟩ := Tra.hist h i (by omega)
    cases hc : chB ops T i with
    | false =>
      obtain ⟨_, _, k3, k4⟩ := h.still (by omega) hc
      rw [k3, k4]
      exact ⟨h1, h2, h3⟩
    | true =>
      obtain ⟨_, _, _, s', _, _, hT⟩ := chB_step h (by omega) hc
      rw [hT]
      refine ⟨by simp [h1], fun k c hk => ?_, fun k l c d hkl hk hl => ?_⟩
      · cases k with
        | zero => simp at hk; subst hk; rfl
        | succ k => exact h2 k c (by simpa using hk)
      · cases l with
        | zero => omega
        | succ l =>
          have hd : (T i).cs[l]? = some d := by simpa using hl
          cases k with
          | zero =>
            simp at hk
            subst hk
            exact ((h.mem_cs i (by omega) d).1 (List.mem_of_getElem? hd)).1
          | succ k => exact h3 k l c d (by omega) (by simpa using hk) hd
theorem backA_spec {A : List (Nat × Blk)} {i : Nat} {o : Oper} {s : St} {v : Value} : ∀ (cs : List Nat) (hs : List Heap), backA P r0 b A i o s v cs hs = true →
    ∀ (k c : Nat) (H : Heap), cs[k]? = some c → hs[k]? = some H → (∀ l c' : Nat, l ≤ k → cs[l]? = some c' → ancA b i c' = false) → ∃ u, readsA P r0 b A i o s H = some u ∧ u = v
  | [], hs, _, k, c, H, hc, _, _ => by simp at hc
  | c0 :: cs, [], _, k, c, H, _, hh, _ => by simp at hh
  | c0 :: cs, H0 :: hs, hb, k, c, H, hc, hh, hall => by
    simp only [backA] at hb
    have h0 := hall 0 c0 (by omega) rfl
    simp only [h0, Bool.false_eq_true, if_false, Bool.and_eq_true] at hb
    cases k with
    | zero =>
      simp at hc hh
      subst hc hh
      cases hr : readsA P r0 b A i o s H0 with
      | none => rw [hr] at hb; simp at hb
      | some u => rw [hr] at hb; exact ⟨u, rfl, veq_eq u v hb.1⟩
    | succ k =>
      exact backA_spec cs hs hb.2 k c H (by simpa using hc) (by simpa using hh) fun l c' hl hc' => hall (l + 1) c' (by omega) (by simpa using hc')
structure OkD (ops : Array Oper) (b : Array Nat) : Prop where
  sel : ∀ i (hi : i < ops.size) cs q, ops[i].op ≠ .select cs q
  back : ∀ i (hi : i < ops.size), ∀ e ∈ ops[i].after, Region.binds .any e = true → e.on < i
  anc : ∀ i (hi : i < ops.size) k, k < ops.size → ancA b i k = true → ∃ e ∈ ops[i].after, Region.binds .any e = true ∧ (e.on = k ∨ ancA b e.on k = true)
  apart : ∀ i (hi : i < ops.size) k (hk : k < i), ancA b i k = true ∨ (ops[k]'(by omega)).apart ops ops[i] = true
theorem okD_spec (h : okD ops = true) : OkD ops (Region.before ops) := by
  unfold okD at h
  simp only [List.all_eq_true, List.mem_range] at h
  have key : ∀ i (hi : i < ops.size),
      ((match ops[i].op with | .select _ _ => false | _ => true) = true ∧ (∀ e ∈ ops[i].after.toList, (!Region.binds .any e || decide (e.on < i)) = true)) ∧
      (∀ k, k < ops.size → (!ancA (Region.before ops) i k || ops[i].after.toList.any fun e => Region.binds .any e && (e.on == k || ancA (Region.before ops) e.on k)) = true) ∧
      (∀ k, k < i → (ancA (Region.before ops) i k || match ops[k]? with | some ok => ok.apart ops ops[i] | none => false) = true) := by
    intro i hi
    have hh := h i hi
    rw [op_at hi] at hh
    simp only [Bool.and_eq_true, List.all_eq_true, List.mem_range] at hh
    exact ⟨⟨hh.1.1.1, hh.1.1.2⟩, hh.1.2, hh.2⟩
  refine ⟨fun i hi cs q e => ?_, fun i hi e he hb => ?_, fun i hi k hk ha => ?_, fun i hi k hk => ?_⟩
  · have := (key i hi).1.1
    rw [e] at this
    cases this
  · have := (key i hi).1.2 e (by simpa using he)
    simpa [hb] using this
  · have := (key i hi).2.1 k hk
    rw [ha] at this
    simp only [Bool.not_true, Bool.false_or, List.any_eq_true, Bool.and_eq_true, Bool.or_eq_true, beq_iff_eq] at this
    obtain ⟨e, he, h1, h2⟩ := this
    exact ⟨e, by simpa using he, h1, h2⟩
  · have := (key i hi).2.2 k hk
    rw [op_at (show k < ops.size by omega)] at this
    simpa using this
theorem OkD.lt (h : OkD ops b) : ∀ i, i < ops.size → ∀ k, k < ops.size → ancA b i k = true → k < i := by
  intro i
  induction i using Nat.strongRecOn with
  | _ i ih =>
    intro hi k hk ha
    obtain ⟨e, he, h1, h2⟩ := h.anc i hi k hk ha
    have hlt := h.back i hi e he h1
    rcases h2 with rfl | h2
    · exact hlt
    · have := ih e.on hlt (by omega) k hk h2; omega
def Closed (ops : Array Oper) (D : Nat → Bool) : Prop := ∀ j (hj : j < ops.size), D j = true → ∀ e ∈ ops[j].after, Region.binds .any e = true → D e.on = true
theorem OkD.closed (h : OkD ops b) {D : Nat → Bool} (hD : Closed ops D) : ∀ i (hi : i < ops.size), (∀ e ∈ ops[i].after, Region.binds .any e = true → D e.on = true) →
    ∀ k, k < ops.size → ancA b i k = true → D k = true := by
  intro i
  induction i using Nat.strongRecOn with
  | _ i ih =>
    intro hi hed k hk ha
    obtain ⟨e, he, h1, h2⟩ := h.anc i hi k hk ha
    have hlt := h.back i hi e he h1
    rcases h2 with rfl | h2
    · exact hed e he h1
    · have hDe := hed e he h1
      have hes : e.on < ops.size := by omega
      exact ih e.on hlt hes (hD e.on hes hDe) k hk h2
structure Rdy (ops : Array Oper) (b : Array Nat) (D : Nat → Bool) (i : Nat) : Prop where
  ok : OkD ops b
  cl : Closed ops D
  hi : i < ops.size
  no : D i = false
  ed : ∀ e ∈ (ops[i]'hi).after, Region.binds .any e = true → D e.on = true
theorem Rdy.anc {D : Nat → Bool} {i : Nat} (h : Rdy ops b D i) {k : Nat} (hk : k < ops.size) (ha : ancA b i k = true) : D k = true := h.ok.closed h.cl i h.hi h.ed k hk ha
theorem Rdy.not {D : Nat → Bool} {i : Nat} (h : Rdy ops b D i) {j : Nat} (hj : j < ops.size) (hD : D j = true) : j ≠ i ∧ ancA b j i = false := by
  constructor
  · intro e; subst e; rw [h.no] at hD; cases hD
  · cases ha : ancA b j i with
    | false => rfl
    | true => have := h.ok.closed h.cl j hj (h.cl j hj hD) i h.hi ha; rw [h.no] at this; cases this
def plus (D : Nat → Bool) (i : Nat) : Nat → Bool := fun j => if j = i then true else D j
variable {D : Nat → Bool} {i : Nat}
theorem Rdy.slot (h : Rdy ops b D i) (ht : Tra P cl ops b r0 T N) {t : Tmp} (hl : t ∈ (ops[i]'h.hi).looksAt ops) : cur ops T D ops.size t = (T i).s.slot t := by
  have up : ∀ d, i + d ≤ ops.size → cur ops T D (i + d) t = cur ops T D i t := by
    intro d
    induction d with
    | zero => intro _; rfl
    | succ d ih =>
      intro hd
      rw [show i + (d + 1) = (i + d) + 1 by omega]
      simp only [cur, op_at (show i + d < ops.size by omega), Option.bind_some]
      rw [if_neg, ih (by omega)]
      rintro ⟨hD, hdst⟩
      obtain ⟨h1, h2⟩ := h.not (by omega) hD
      rcases h.ok.apart (i + d) (by omega) i (by omega) with ha | ha
      · rw [h2] at ha; cases ha
      · exact (Oper.apart_spec ha).2.2 t hdst hl
  have down : ∀ k, k ≤ i → cur ops T D k t = cur ops T (fun _ => true) k t := by
    intro k
    induction k with
    | zero => intro _; rfl
    | succ k ih =>
      intro hk
      have hi := h.hi
      have hks : k < ops.size := by omega
      simp only [cur, op_at hks, Option.bind_some, true_and]
      by_cases hdst : (ops[k]).dst = some t
      · have hDk : D k = true := by
          rcases h.ok.apart i h.hi k (by omega) with ha | ha
          · exact h.anc hks ha
          · exact absurd hl ((Oper.apart_spec ha).1 t hdst)
        simp only [hDk, hdst, and_self, if_true]
      · rw [if_neg (fun q => hdst q.2), if_neg hdst]
        exact ih (by omega)
  have hi := h.hi
  have e1 := up (ops.size - i) (by omega)
  rw [show i + (ops.size - i) = ops.size by omega] at e1
  rw [e1, down i (Nat.le_refl _), ← ht.cur i (by omega) t]
theorem Rdy.plus (h : Rdy ops b D i) (t : Tmp) : cur ops T (Am.plus D i) ops.size t = if (ops[i]'h.hi).dst = some t then (T (i + 1)).s.slot t else cur ops T D ops.size t := by
  have hi := h.hi
  split
  · rename_i hd
    have up : ∀ d, i + 1 + d ≤ ops.size → cur ops T (Am.plus D i) (i + 1 + d) t = (T (i + 1)).s.slot t := by
      intro d
      induction d with
      | zero => intro _; simp [cur, Am.plus, op_at hi, hd]
      | succ d ih =>
        intro hds
        rw [show i + 1 + (d + 1) = (i + 1 + d) + 1 by omega]
        simp only [cur, op_at (show i + 1 + d < ops.size by omega), Option.bind_some]
        rw [if_neg, ih (by omega)]
        rintro ⟨hD, hdst⟩
        have hD' : D (i + 1 + d) = true := by simpa [Am.plus, show ¬ (i + 1 + d = i) by omega] using hD
        obtain ⟨h1, h2⟩ := h.not (by omega) hD'
        rcases h.ok.apart (i + 1 + d) (by omega) i (by omega) with ha | ha
        · rw [h2] at ha; cases ha
        · exact (Oper.apart_spec ha).2.1 t hd hdst
    have := up (ops.size - (i + 1)) (by omega)
    rwa [show i + 1 + (ops.size - (i + 1)) = ops.size by omega] at this
  · rename_i hd
    have all : ∀ k, k ≤ ops.size → cur ops T (Am.plus D i) k t = cur ops T D k t := by
      intro k
      induction k with
      | zero => intro _; rfl
      | succ k ih =>
        intro hk
        simp only [cur, op_at (show k < ops.size by omega), Option.bind_some]
        by_cases e : k = i
        · subst e
          rw [if_neg (fun q => hd q.2), if_neg (fun q => hd q.2)]
          exact ih (by omega)
        · have e1 : Am.plus D i k = D k := by simp [Am.plus, e]
          rw [e1, ih (by omega)]
    exact all ops.size (Nat.le_refl _)
theorem Rdy.atChain (h : Rdy ops b D i) (ht : Tra P cl ops b r0 T N) (hc : chB ops T i = true) : mOf ops T D ops.size = mOf ops T (fun _ => true) i := by
  have hi := h.hi
  obtain ⟨_, _, hcs, _⟩ := chB_step ht h.hi hc
  have up : ∀ d, i + d ≤ ops.size → mOf ops T D (i + d) = mOf ops T D i := by
    intro d
    induction d with
    | zero => intro _; rfl
    | succ d ih =>
      intro hd
      rw [show i + (d + 1) = (i + d) + 1 by omega]
      simp only [mOf]
      rw [if_neg, ih (by omega)]
      rintro ⟨hD, hch⟩
      obtain ⟨h1, h2⟩ := h.not (by omega) hD
      obtain ⟨_, _, hcs2, _⟩ := chB_step ht (show i + d < ops.size by omega) hch
      have hmem : i ∈ (T (i + d)).cs := (ht.mem_cs (i + d) (by omega) i).2 ⟨by omega, hc⟩
      have := List.all_eq_true.1 hcs2 i hmem
      rw [h2] at this; cases this
  have down : ∀ k, k ≤ i → mOf ops T D k = mOf ops T (fun _ => true) k := by
    intro k
    induction k with
    | zero => intro _; rfl
    | succ k ih =>
      intro hk
      simp only [mOf, true_and]
      cases hch : chB ops T k with
      | true =>
        have hmem : k ∈ (T i).cs := (ht.mem_cs i (by omega) k).2 ⟨by omega, hch⟩
        have := h.anc (by omega) (List.all_eq_true.1 hcs k hmem)
        simp [this]
      | false => simp [ih (by omega)]
  have e1 := up (ops.size - i) (by omega)
  rw [show i + (ops.size - i) = ops.size by omega] at e1
  rw [e1, down i (Nat.le_refl _)]
theorem Rdy.plusChain (h : Rdy ops b D i) (ht : Tra P cl ops b r0 T N) (hc : chB ops T i = true) : mOf ops T (Am.plus D i) ops.size = i + 1 := by
  have hi := h.hi
  have up : ∀ d, i + 1 + d ≤ ops.size → mOf ops T (Am.plus D i) (i + 1 + d) = i + 1 := by
    intro d
    induction d with
    | zero => intro _; simp [mOf, Am.plus, hc]
    | succ d ih =>
      intro hd
      rw [show i + 1 + (d + 1) = (i + 1 + d) + 1 by omega]
      simp only [mOf]
      rw [if_neg, ih (by omega)]
      rintro ⟨hD, hch⟩
      have hD' : D (i + 1 + d) = true := by simpa [Am.plus, show ¬ (i + 1 + d = i) by omega] using hD
      obtain ⟨h1, h2⟩ := h.not (by omega) hD'
      obtain ⟨_, _, hcs2, _⟩ := chB_step ht (show i + 1 + d < ops.size by omega) hch
      have hmem : i ∈ (T (i + 1 + d)).cs := (ht.mem_cs (i + 1 + d) (by omega) i).2 ⟨by omega, hc⟩
      have := List.all_eq_true.1 hcs2 i hmem
      rw [h2] at this; cases this
  have := up (ops.size - (i + 1)) (by omega)
  rwa [show i + 1 + (ops.size - (i + 1)) = ops.size by omega] at this
theorem plusOther {D : Nat → Bool} {i : Nat} (hc : chB ops T i = false) : ∀ k, mOf ops T (plus D i) k = mOf ops T D k
  | 0 => rfl
  | k + 1 => by
    simp only [mOf, plusOther hc k]
    by_cases e : k = i
    · subst e; simp [hc]
    · simp [Am.plus, e]
theorem Tra.mem_A (h : Tra P cl ops b r0 T N) (ok : OkD ops b) : ∀ i, i ≤ ops.size → ∀ j x, (j, x) ∈ (T i).A ↔ j < i ∧ alB ops T j = true ∧ blkO P ops T j = some x ∧ ∀ c, c < i → chB ops T c = true → ancA b c j = false
  | 0, _, j, x => by rw [h.A0]; simp
  | i + 1, hi, j, x => by
    have ih := Tra.mem_A h ok i (by omega) j x
    have hst := h.step i _ (op_at (show i < ops.size by omega))
    have hne : ∀ (hch : chB ops T i = false) (hal : alB ops T i = false) (hA : (T (i + 1)).A = (T i).A), (j, x) ∈ (T (i + 1)).A ↔ j < i + 1 ∧ alB ops T j = true ∧ blkO P ops T j = some x ∧ ∀ c, c < i + 1 → chB ops T c = true → ancA b c j = false := by
      intro hch hal hA
      rw [hA, ih]
      constructor
      · rintro ⟨a1, a2, a3, a4⟩
        refine ⟨by omega, a2, a3, fun c hc hcc => ?_⟩
        by_cases e : c = i
        · subst e; rw [hch] at hcc; cases hcc
        · exact a4 c (by omega) hcc
      · rintro ⟨a1, a2, a3, a4⟩
        have : j ≠ i := by intro e; subst e; rw [hal] at a2; cases a2
        exact ⟨by omega, a2, a3, fun c hc hcc => a4 c (by omega) hcc⟩
    cases hst with
    | dis hw hy =>
      refine hne ?_ ?_ (by rw [hy])
      · simp [chB, op_at (show i < ops.size by omega), hw]
      · simp [alB, op_at (show i < ops.size by omega), hw]
    | qui hw hk v H1 h' hy =>
      refine hne ?_ ?_ (by rw [hy])
      · simp [chB, op_at (show i < ops.size by omega), hk]
      · simp [alB, op_at (show i < ops.size by omega), hk]
    | rea hw hk v h' hb hy =>
      refine hne ?_ ?_ (by rw [hy])
      · simp [chB, op_at (show i < ops.size by omega), hk]
      · simp [alB, op_at (show i < ops.size by omega), hk]
    | all hw hk r h' hy =>
      rw [hy]
      have hch : chB ops T i = false := by simp [chB, op_at (show i < ops.size by omega), hk]
      have hal : alB ops T i = true := by simp [alB, op_at (show i < ops.size by omega), hk, hw]
      have hbl : blkO P ops T i = some r.2 := by simp [blkO, op_at (show i < ops.size by omega), h']
      simp only [List.mem_append, ih, List.mem_singleton, Prod.mk.injEq]
      constructor
      · rintro (⟨a1, a2, a3, a4⟩ | ⟨rfl, rfl⟩)
        · refine ⟨by omega, a2, a3, fun c hc hcc => ?_⟩
          by_cases e : c = i
          · subst e; rw [hch] at hcc; cases hcc
          · exact a4 c (by omega) hcc
        · refine ⟨by omega, hal, hbl, fun c hc hcc => ?_⟩
          cases ha : ancA b c j with
          | false => rfl
          | true =>
            have := ok.lt c (by omega) j (by omega) ha
            omega
      · rintro ⟨a1, a2, a3, a4⟩
        by_cases e : j = i
        · right
          subst e
          rw [hbl] at a3
          exact ⟨rfl, by simpa using a3.symm⟩
        · exact .inl ⟨by omega, a2, a3, fun c hc hcc => a4 c (by omega) hcc⟩
    | cha hw hk hcs s' h' hrd hy =>
      rw [hy]
      have hch : chB ops T i = true := by simp [chB, op_at (show i < ops.size by omega), hk, hw]
      have hal : alB ops T i = false := by simp [alB, op_at (show i < ops.size by omega), hk]
      simp only [List.mem_filter, ih, Bool.not_eq_true']
      constructor
      · rintro ⟨⟨a1, a2, a3, a4⟩, a5⟩
        refine ⟨by omega, a2, a3, fun c hc hcc => ?_⟩
        by_cases e : c = i
        · subst e; exact a5
        · exact a4 c (by omega) hcc
      · rintro ⟨a1, a2, a3, a4⟩
        have : j ≠ i := by intro e; subst e; rw [hal] at a2; cases a2
        exact ⟨⟨by omega, a2, a3, fun c hc hcc => a4 c (by omega) hcc⟩, a4 i (by omega) hch⟩
theorem Tra.mem_rd (h : Tra P cl ops b r0 T N) {k : Nat} {q : Nat × Oper × St × Value} (hq : q ∈ (T k).rd) : ∀ d, k + d ≤ ops.size → q ∈ (T (k + d)).rd
  | 0, _ => hq
  | d + 1, hd => by
    have ih := Tra.mem_rd h hq d (by omega)
    show q ∈ (T (k + d + 1)).rd
    cases h.step (k + d) _ (op_at (show k + d < ops.size by omega)) with
    | dis hw hy => rw [hy]; exact ih
    | qui hw hk v H1 h' hy => rw [hy]; exact ih
    | all hw hk r h' hy => rw [hy]; exact ih
    | rea hw hk v h' hb hy => rw [hy]; exact List.mem_cons_of_mem _ ih
    | cha hw hk hcs s' h' hrd hy => rw [hy]; exact ih
end
end Go.Am
namespace Go.Am
open Go.RowKit
section
variable {P : Program} {cl : Cl} {ops : Array Oper} {b : Array Nat} {r0 : Nat} {T : Nat → DS} {N : Nat}
theorem layA_next : ∀ (A : List (Nat × Blk)) (H : Heap), (layA r0 H A).next = H.next
  | [], H => rfl
  | (i, x) :: rest, H => by simp only [layA]; rw [layA_next rest]; exact Heap.set_next _ _ _
theorem layA_get (hr0 : base0 ≤ r0) : ∀ (A : List (Nat × Blk)) (H : Heap) (id : Nat), (∀ p ∈ A, r0 + p.1 ≠ id) → (layA r0 H A).get id = H.get id
  | [], H, id, _ => rfl
  | (i, x) :: rest, H, id, h => by
    simp only [layA]
    rw [layA_get hr0 rest _ id fun p hp => h p (by simp [hp]), Heap.get_set (by omega), if_neg]
    exact fun e => h (i, x) (by simp) e.symm
theorem layA_mem (hr0 : base0 ≤ r0) : ∀ (A : List (Nat × Blk)) (H : Heap), (∀ p ∈ A, ∀ q ∈ A, p.1 = q.1 → p.2 = q.2) → ∀ p ∈ A, (layA r0 H A).get (r0 + p.1) = some p.2
  | [], H, _, p, hp => by cases hp
  | (i, x) :: rest, H, h, p, hp => by
    simp only [layA]
    by_cases hq : ∃ q ∈ rest, q.1 = p.1
    · obtain ⟨q, hq, e⟩ := hq
      rw [← e, layA_mem hr0 rest _ (fun p hp q hq => h p (by simp [hp]) q (by simp [hq])) q hq]
      rw [h q (by simp [hq]) p hp e]
    · rw [layA_get hr0 rest _ _ fun q hqr e => hq ⟨q, hqr, by omega⟩]
      rcases List.mem_cons.1 hp with rfl | hp'
      · rw [Heap.get_set (by omega), if_pos rfl]
      · exact absurd ⟨p, hp', rfl⟩ hq
def XD (P : Program) (ops : Array Oper) (T : Nat → DS) (b : Array Nat) (r0 : Nat) (X : XF) (D : Nat → Bool) (m : Nat) : XF := fun id =>
  if r0 ≤ id ∧ id < r0 + (ops.size + 1) then
    if D (id - r0) = true ∧ alB ops T (id - r0) = true then
      if ((List.range m).any fun c => chB ops T c && ancA b c (id - r0)) = true then none else some (blkO P ops T (id - r0))
    else some none
  else X id
structure Pend (P : Program) (ops : Array Oper) (T : Nat → DS) (b : Array Nat) (D : Nat → Bool) (m : Nat) (p : Nat × Blk) : Prop where
  lt : p.1 < ops.size
  D : D p.1 = true
  al : alB ops T p.1 = true
  bl : blkO P ops T p.1 = some p.2
  no : ∀ c, c < m → chB ops T c = true → ancA b c p.1 = false
theorem Pend.xd {D : Nat → Bool} {m : Nat} {p : Nat × Blk} (h : Pend P ops T b D m p) (X : XF) : XD P ops T b r0 X D m (r0 + p.1) = some (some p.2) := by
  have h1 := h.lt
  simp only [XD, Nat.add_sub_cancel_left]
  rw [if_pos ⟨by omega, by omega⟩, if_pos ⟨h.D, h.al⟩, if_neg, h.bl]
  simp only [List.any_eq_true, List.mem_range, Bool.and_eq_true, not_exists, not_and]
  intro c hc hch
  simp [h.no c hc hch]
def XM (r0 : Nat) (X : XF) (Af : List (Nat × Blk)) : XF := fun id => if (Af.any fun p => r0 + p.1 == id) = true then none else X id
theorem XM_key {X : XF} {Af : List (Nat × Blk)} {p : Nat × Blk} (hp : p ∈ Af) : XM r0 X Af (r0 + p.1) = none := by
  unfold XM
  rw [if_pos]
  exact List.any_eq_true.2 ⟨p, hp, by simp⟩
theorem XM_other {X : XF} {Af : List (Nat × Blk)} {id : Nat} (h : ∀ p ∈ Af, r0 + p.1 ≠ id) : XM r0 X Af id = X id := by
  unfold XM
  rw [if_neg]
  simp only [List.any_eq_true, beq_iff_eq, not_exists, not_and]
  exact fun p hp => h p hp
theorem HR.lay (hr0 : base0 ≤ r0) {β : Ren} {S : Heap} {X : XF} {base : Nat} {w : World} {D : Nat → Bool} {m : Nat} (h : HR β S (XD P ops T b r0 X D m) base w) (Af : List (Nat × Blk))
    (hA : ∀ p ∈ Af, Pend P ops T b D m p) : HR β (layA r0 S Af) (XM r0 (XD P ops T b r0 X D m) Af) base w := by
  have huniq : ∀ p ∈ Af, ∀ q ∈ Af, p.1 = q.1 → p.2 = q.2 := by
    intro p hp q hq e
    have h1 := (hA p hp).bl
    have h2 := (hA q hq).bl
    rw [e, h2] at h1
    simpa using h1.symm
  refine h.congr ?_ (by rw [layA_next]; exact Nat.le_refl _) (by rw [layA_next]; exact h.fresh) ?_ ?_
  · intro id
    by_cases hk : ∃ p ∈ Af, r0 + p.1 = id
    · obtain ⟨p, hp, rfl⟩ := hk
      have hx := (hA p hp).xd (r0 := r0) X
      simp only [getX, layA_mem hr0 Af S huniq p hp, XM_key hp, hx, h.disj _ _ hx]
      rfl
    · have hk' : ∀ p ∈ Af, r0 + p.1 ≠ id := fun p hp e => hk ⟨p, hp, e⟩
      simp only [getX, layA_get hr0 Af S id hk', XM_other hk']
  · intro id x hx
    by_cases hk : ∃ p ∈ Af, r0 + p.1 = id
    · obtain ⟨p, hp, rfl⟩ := hk
      rw [XM_key hp] at hx; cases hx
    · have hk' : ∀ p ∈ Af, r0 + p.1 ≠ id := fun p hp e => hk ⟨p, hp, e⟩
      rw [XM_other hk'] at hx
      rw [layA_get hr0 Af S id hk', layA_next]
      exact ⟨h.disj id x hx, h.xlt id x hx⟩
  · intro id hx
    by_cases hk : ∃ p ∈ Af, r0 + p.1 = id
    · obtain ⟨p, hp, rfl⟩ := hk
      rw [XM_key hp] at hx; cases hx
    · have hk' : ∀ p ∈ Af, r0 + p.1 ≠ id := fun p hp e => hk ⟨p, hp, e⟩
      rw [XM_other hk'] at hx
      exact h.res id hx
theorem HR.unlay (hr0 : base0 ≤ r0) {β : Ren} {S : Heap} {X : XF} {base : Nat} {w : World} {D : Nat → Bool} {m : Nat} (Af : List (Nat × Blk)) (hA : ∀ p ∈ Af, Pend P ops T b D m p)
    (hS : ∀ p ∈ Af, S.get (r0 + p.1) = none) (hn : r0 + ops.size < S.next) (h : HR β (layA r0 S Af) (XM r0 (XD P ops T b r0 X D m) Af) base w) : HR β S (XD P ops T b r0 X D m) base w := by
  have huniq : ∀ p ∈ Af, ∀ q ∈ Af, p.1 = q.1 → p.2 = q.2 := by
    intro p hp q hq e
    have h1 := (hA p hp).bl
    have h2 := (hA q hq).bl
    rw [e, h2] at h1
    simpa using h1.symm
  have hnx : (layA r0 S Af).next = S.next := layA_next _ _
  refine h.congr ?_ (by rw [hnx]; exact Nat.le_refl _) (by have := h.fresh; rwa [hnx] at this) ?_ ?_
  · intro id
    by_cases hk : ∃ p ∈ Af, r0 + p.1 = id
    · obtain ⟨p, hp, rfl⟩ := hk
      have hx := (hA p hp).xd (r0 := r0) X
      simp only [getX, layA_mem hr0 Af S huniq p hp, XM_key hp, hx, hS p hp]
      rfl
    · have hk' : ∀ p ∈ Af, r0 + p.1 ≠ id := fun p hp e => hk ⟨p, hp, e⟩
      simp only [getX, layA_get hr0 Af S id hk', XM_other hk']
  · intro id x hx
    by_cases hk : ∃ p ∈ Af, r0 + p.1 = id
    · obtain ⟨p, hp, rfl⟩ := hk
      have := (hA p hp).lt
      exact ⟨hS p hp, by omega⟩
    · have hk' : ∀ p ∈ Af, r0 + p.1 ≠ id := fun p hp e => hk ⟨p, hp, e⟩
      have hx' : XM r0 (XD P ops T b r0 X D m) Af id = some x := by rw [XM_other hk']; exact hx
      have h1 := h.disj id x hx'
      have h2 := h.xlt id x hx'
      rw [layA_get hr0 Af S id hk'] at h1
      rw [hnx] at h2
      exact ⟨h1, h2⟩
  · intro id hx
    by_cases hk : ∃ p ∈ Af, r0 + p.1 = id
    · obtain ⟨p, hp, rfl⟩ := hk
      rw [(hA p hp).xd (r0 := r0) X] at hx; cases hx
    · have hk' : ∀ p ∈ Af, r0 + p.1 ≠ id := fun p hp e => hk ⟨p, hp, e⟩
      exact h.res id (by rw [XM_other hk']; exact hx)
theorem mOf_in (ok : OkD ops b) (ht : Tra P cl ops b r0 T N) {D : Nat → Bool} (hD : Closed ops D) {c : Nat} (hc : c < mOf ops T D ops.size) (hch : chB ops T c = true) : D c = true := by
  rcases (mOf_spec (ops := ops) (T := T) D ops.size).1 with h | ⟨j, hj, hm, hDj, hcj⟩
  · omega
  · by_cases e : c = j
    · rw [e]; exact hDj
    · obtain ⟨_, _, hcs, _⟩ := chB_step ht hj hcj
      have hmem : c ∈ (T j).cs := (ht.mem_cs j (by omega) c).2 ⟨by omega, hch⟩
      exact ok.closed hD j hj (hD j hj hDj) c (by omega) (List.all_eq_true.1 hcs c hmem)
theorem slot_put (s : St) (t : Tmp) (v : Value) : (s.put (some t) v).slot t = if t < s.n then v else s.slot t := by
  simp only [St.put]
  split
  · simp [St.slot]
  · rfl
theorem yielded_slot (ops : Array Oper) (s : St) (j : Nat) : yieldedA ops s j = match (ops[j]?).bind (·.dst) with
    | some t => (match s.slot t with | .bool b => some b | _ => none)
    | none => none := by
  unfold yieldedA
  cases (ops[j]?).bind (·.dst) with
  | none => rfl
  | some t =>
    simp only [St.slot]
    cases s.f.get t with
    | none => rfl
    | some v => cases v <;> rfl
theorem wanted_congr {s s2 : St} {o : Oper} (h : ∀ t ∈ o.looksAt ops, s.slot t = s2.slot t) : wantedA o ops s = wantedA o ops s2 := by
  unfold wantedA
  cases hg : o.guard with
  | none => rfl
  | some g =>
    obtain ⟨j, want⟩ := g
    simp only [yielded_slot]
    cases hd : (ops[j]?).bind (·.dst) with
    | none => rfl
    | some t =>
      have := h t (by simp [Oper.looksAt, hg, hd])
      simp only [this]
theorem ev_congr {s s2 : St} {o : Oper} (h : ∀ t ∈ o.looksAt ops, s.slot t = s2.slot t) : ∀ x ∈ o.op.operands, s.ev x = s2.ev x := by
  intro x hx
  cases x with
  | tmp t =>
    have := h t (by
      unfold Oper.looksAt
      exact List.mem_append_left _ (List.mem_filterMap.2 ⟨.tmp t, by simpa using hx, rfl⟩))
    simp [St.ev, this]
  | _ => rfl
structure Inv (P : Program) (ops : Array Oper) (b : Array Nat) (r0 : Nat) (T : Nat → DS) (N : Nat) (β0 : Ren) (X : XF) (base : Nat) (w0 : World) (D : Nat → Bool) (a : Act) (w : World) (β : Ren) (s : St) : Prop where
  le : Le β0 β
  fr : FR β s a
  sn : s.n = N
  sl : ∀ t, s.slot t = cur ops T D ops.size t
  df : DL β (T (mOf ops T D ops.size)).s.d a.defers
  hr : HR β (T (mOf ops T D ops.size)).s.H (XD P ops T b r0 X D (mOf ops T D ops.size)) base w
  bl : Below base w0 w
variable {β0 : Ren} {X : XF} {base : Nat} {w0 : World} {D : Nat → Bool} {a : Act} {w : World} {i : Nat}
theorem slots_step (h : Rdy ops b D i) (ht : Tra P cl ops b r0 T N) {s : St} (hsn : s.n = N) (hsl : ∀ t, s.slot t = cur ops T D ops.size t) (hsf : ∀ t, N ≤ t → s.f.get t = none) {v : Value} {x : St}
    (hx : (T (i + 1)).s = x.put (ops[i]'h.hi).dst v) (hxn : x.n = N) (s2 : St) (h2n : s2.n = s.n) (h2f : s2.f = s.f) :
    ∀ t, (s2.put (ops[i]'h.hi).dst v).slot t = cur ops T (plus D i) ops.size t := by
  intro t
  have e2 : ∀ t, s2.slot t = s.slot t := fun t => by simp [St.slot, h2f]
  rw [h.plus t]
  split
  · rename_i hd
    rw [hx, hd, slot_put, slot_put, h2n, hsn, hxn]
    split
    · rfl
    · rename_i hN
      have h1 : s2.slot t = undef := by rw [e2]; simp [St.slot, hsf t (Nat.le_of_not_lt hN)]
      have h3 := (ht.n (i + 1) (by have := h.hi; omega)).2 t (Nat.le_of_not_lt hN)
      have h4 : x.f.get t = none := by
        rw [hx, hd] at h3
        simp only [St.put] at h3
        rw [if_neg (by rw [hxn]; exact hN)] at h3
        exact h3
      rw [h1]; simp [St.slot, h4]
  · rename_i hd
    rw [slot_put_ne _ _ _ _ hd, e2, hsl]
theorem XD_same (hal : alB ops T i = false) (m : Nat) : XD P ops T b r0 X (plus D i) m = XD P ops T b r0 X D m := by
  funext id
  unfold XD
  by_cases e : id - r0 = i
  · simp [e, hal]
  · simp [plus, e]
end
end Go.Am
namespace Go.Am
open Go.RowKit
section
variable {P : Program} {cl : Cl} {ops : Array Oper} {b : Array Nat} {r0 : Nat} {T : Nat → DS} {N : Nat} {β0 : Ren} {X : XF} {base : Nat} {w0 : World} {D : Nat → Bool} {a : Act} {w : World} {i : Nat}
theorem wpOp_wanted {o : Oper} {K : Act → World → Prop} {Q : Exit → Act → World → Prop} {i : Nat} (ho : ops[i]? = some o) (hw : Region.wanted o (yielded ops a.tmps) = true) (h : o.wp P a w K Q) : wpOp P ops Q i K a w := by
  unfold wpOp
  simp only [ho, hw, if_true]
  exact .inl h
theorem wpOp_not {o : Oper} {K : Act → World → Prop} {Q : Exit → Act → World → Prop} {i : Nat} (ho : ops[i]? = some o) (hw : Region.wanted o (yielded ops a.tmps) = false) (h : K (a.put o.dst undef) w) : wpOp P ops Q i K a w := by
  unfold wpOp
  simp only [ho, hw, Bool.false_eq_true, if_false]
  exact h
theorem RR.wp {o : Oper} {β : Ren} {H H' : Heap} {v : Value} (h : RR P o a β H H' X base w (.val v)) {K : Act → World → Prop} {Q : Exit → Act → World → Prop}
    (hK : ∀ β' v' w', Le β β' → VR β' v v' → HR β' H' X base w' → Below base w w' → K (a.put o.dst v') w') : o.wp P a w K Q := by
  obtain ⟨β', v', w', hrun, l, vr, hr', b⟩ := h
  unfold Oper.wp
  have := hK β' v' w' l vr hr' b
  rcases hrun with hrun | ⟨hrun, rfl⟩
  · rw [hrun]; exact this
  · rw [hrun]; exact this
theorem Inv.slots {β β' : Ren} {s : St} (hinv : Inv P ops b r0 T N β0 X base w0 D a w β s) (h : Rdy ops b D i) (ht : Tra P cl ops b r0 T N) (hch : chB ops T i = false) {v v' : Value} {w' : World} {x : St}
    (hx : (T (i + 1)).s = x.put (ops[i]'h.hi).dst v) (hxn : x.n = N) (l : Le β β') (vr : VR β' v v')
    (hr' : HR β' (T (mOf ops T D ops.size)).s.H (XD P ops T b r0 X (plus D i) (mOf ops T D ops.size)) base w') (b' : Below base w w') :
    Inv P ops b r0 T N β0 X base w0 (plus D i) (a.put (ops[i]'h.hi).dst v') w' β' (s.put (ops[i]'h.hi).dst v) := by
  have hm : mOf ops T (plus D i) ops.size = mOf ops T D ops.size := plusOther hch _
  refine ⟨hinv.le.trans l, (hinv.fr.mono l).put vr _, by simp [hinv.sn], ?_, ?_, ?_, hinv.bl.trans b'⟩
  · exact slots_step h ht hinv.sn hinv.sl (fun t hn => hinv.fr.2.2 t (by rw [hinv.sn]; exact hn)) hx hxn s rfl rfl
  · rw [hm]; simpa using hinv.df.mono l
  · rw [hm]; exact hr'
theorem inv_step (hN : NameOk P) (hcl : SoundK P cl) (hr0 : base0 ≤ r0) (h : Rdy ops b D i) (ht : Tra P cl ops b r0 T N) (hDn : D ops.size = false)
    (hinv : ∃ β s, Inv P ops b r0 T N β0 X base w0 D a w β s) {Q : Exit → Act → World → Prop} :
    wpOp P ops Q i (fun a' w' => ∃ β s, Inv P ops b r0 T N β0 X base w0 (plus D i) a' w' β s) a w := by
  obtain ⟨β, s, hinv⟩ := hinv
  have hi := h.hi
  have hsl : ∀ t ∈ (ops[i]).looksAt ops, s.slot t = (T i).s.slot t := fun t hl => (hinv.sl t).trans (h.slot ht hl)
  have hwan : Region.wanted ops[i] (yielded ops a.tmps) = wantedA ops[i] ops (T i).s := by rw [← wanted_rel hinv.fr]; exact wanted_congr hsl
  have hev := ev_congr hsl
  have hTn := (ht.n i (by omega)).1
  have hp : ops[i]? = some ops[i] := op_at hi
  have hxn : r0 + ops.size < (T (mOf ops T D ops.size)).s.H.next := hinv.hr.xlt (r0 + ops.size) none (by simp [XD, hDn])
  have hst := ht.step i _ hp
  cases hst with
  | dis hw hy =>
    refine wpOp_not hp (hwan.trans hw) ⟨β, _, hinv.slots h ht (by simp [chB, hp, hw]) (v := undef) (x := (T i).s) (by rw [hy]) hTn (Le.refl β) (.undef β) ?_ (Below.refl _ _)⟩
    rw [XD_same (by simp [alB, hp, hw])]
    exact hinv.hr
  | qui hw hk v H1 hop hy =>
    refine wpOp_wanted hp (hwan.trans hw) ?_
    have h1 := (quiet_indep hk hop).2 (T (mOf ops T D ops.size)).s.H
    rw [opA_congr ops[i] _ (fun x hx => (hev x hx).symm)] at h1
    refine (opA_sound hinv.fr.ev hinv.hr h1).wp fun β' v' w' l vr hr' b' => ?_
    refine ⟨β', _, hinv.slots h ht (by simp [chB, hp, hk]) (x := (T i).s) (by rw [hy]) hTn l vr ?_ b'⟩
    rw [XD_same (by simp [alB, hp, hk])]
    exact hr'
  | all hw hk r hal hy =>
    refine wpOp_wanted hp (hwan.trans hw) ?_
    rw [allocA_congr (P := P) ops[i].op (fun x hx => (hev x hx).symm)] at hal
    have hbl : blkO P ops T i = some r.2 := by
      have hal' := hal
      rw [allocA_congr (P := P) ops[i].op hev] at hal'
      simp [blkO, hp, hal']
    have hxi : XD P ops T b r0 X D (mOf ops T D ops.size) (r0 + i) = some none := by
      simp only [XD, Nat.add_sub_cancel_left]
      rw [if_pos ⟨by omega, by omega⟩, if_neg]
      rw [h.no]; simp
    have hxi' : XD P ops T b r0 X (plus D i) (mOf ops T D ops.size) (r0 + i) = some (some r.2) := by
      simp only [XD, Nat.add_sub_cancel_left]
      rw [if_pos ⟨by omega, by omega⟩, if_pos ⟨by simp [plus], by simp [alB, hp, hk, hw]⟩, if_neg, hbl]
      simp only [List.any_eq_true, List.mem_range, Bool.and_eq_true, not_exists, not_and]
      intro c hc hch
      have hDc := mOf_in h.ok ht h.cl hc hch
      have hcs : c < ops.size := Nat.lt_of_lt_of_le hc (mOf_le _ _)
      simp [(h.not hcs hDc).2]
    have hxo : ∀ j, j ≠ r0 + i → XD P ops T b r0 X (plus D i) (mOf ops T D ops.size) j = XD P ops T b r0 X D (mOf ops T D ops.size) j := by
      intro j hj
      unfold XD
      by_cases hrng : r0 ≤ j ∧ j < r0 + (ops.size + 1)
      · have : j - r0 ≠ i := by omega
        simp [plus, this]
      · simp [hrng]
    obtain ⟨β', v', w', hrun, l, vr, hr', b'⟩ := allocA_sound hinv.fr.ev hinv.hr hal (r0 + i) (T (mOf ops T D ops.size)).s.H (XD P ops T b r0 X (plus D i) (mOf ops T D ops.size))
      ⟨by omega, hinv.hr.res _ hxi, hinv.hr.xlt _ _ hxi, Nat.le_refl _, fun j => by
          by_cases e : j = r0 + i
          · rw [if_pos e, e]; simp only [getX, hxi', hinv.hr.disj _ _ hxi]; rfl
          · rw [if_neg e]; simp only [getX, hxo j e],
        fun j q hq => by
          by_cases e : j = r0 + i
          · rw [e]; exact ⟨hinv.hr.disj _ _ hxi, hinv.hr.xlt _ _ hxi⟩
          · rw [hxo j e] at hq; exact ⟨hinv.hr.disj _ _ hq, hinv.hr.xlt _ _ hq⟩,
        fun j hj => by
          by_cases e : j = r0 + i
          · rw [e, hxi'] at hj; cases hj
          · rw [hxo j e] at hj; exact ⟨e, hj⟩⟩
    unfold Oper.wp
    rw [hrun]
    exact ⟨β', _, hinv.slots h ht (by simp [chB, hp, hk]) (v := r.1 (r0 + i)) (x := (T i).s) (by rw [hy]) hTn l vr hr' b'⟩
  | rea hw hk v hrd hbk hy =>
    refine wpOp_wanted hp (hwan.trans hw) ?_
    have hchi : chB ops T i = false := by simp [chB, hp, hk]
    -- what it reads in the heap as it stands
    have key : ∃ A1, readsA P r0 b A1 i ops[i] (T i).s (T (mOf ops T D ops.size)).s.H = some v ∧ ∀ p ∈ A1.filter (fun p => ancA b i p.1), Pend P ops T b D (mOf ops T D ops.size) p := by
      have hml := mOf_le (ops := ops) (T := T) D ops.size
      by_cases hmi : mOf ops T D ops.size ≤ i
      · refine ⟨(T i).A, ?_, ?_⟩
        · -- back in time
          have hno : ∀ c, mOf ops T D ops.size ≤ c → c < i → chB ops T c = true → ancA b i c = false := by
            intro c hc hci hch
            cases ha : ancA b i c with
            | false => rfl
            | true =>
              have hDc := h.anc (by omega) ha
              have := (mOf_spec (ops := ops) (T := T) D ops.size).2 c (by omega) hDc hch
              omega
          have hleast : ∀ d, mOf ops T D ops.size + d ≤ i → (∀ c, mOf ops T D ops.size ≤ c → c < mOf ops T D ops.size + d → chB ops T c = false) ∨
              ∃ c, mOf ops T D ops.size ≤ c ∧ c < mOf ops T D ops.size + d ∧ chB ops T c = true ∧ ∀ c', mOf ops T D ops.size ≤ c' → c' < c → chB ops T c' = false := by
            intro d
            induction d with
            | zero => intro _; exact .inl fun c a b => by omega
            | succ d ih =>
              intro hd
              rcases ih (by omega) with h1 | ⟨c, a1, a2, a3, a4⟩
              · cases hch : chB ops T (mOf ops T D ops.size + d) with
                | true => exact .inr ⟨_, by omega, by omega, hch, fun c' p q => h1 c' p q⟩
                | false =>
                  left
                  intro c a b
                  by_cases e : c = mOf ops T D ops.size + d
                  · rw [e]; exact hch
                  · exact h1 c a (by omega)
              · exact .inr ⟨c, a1, by omega, a3, a4⟩
          rcases hleast (i - mOf ops T D ops.size) (by omega) with h1 | ⟨c, a1, a2, a3, a4⟩
          · have hb := (ht.between (m := mOf ops T D ops.size) (i - mOf ops T D ops.size) (by omega) (fun c p q => h1 c p q)).1
            rw [show mOf ops T D ops.size + (i - mOf ops T D ops.size) = i by omega] at hb
            rw [← hb]; exact hrd
          · have hb := (ht.between (m := mOf ops T D ops.size) (c - mOf ops T D ops.size) (by omega) (fun c' p q => a4 c' p (by omega))).1
            rw [show mOf ops T D ops.size + (c - mOf ops T D ops.size) = c by omega] at hb
            rw [← hb]
            have hci : c < i := by omega
            have hmem : c ∈ (T i).cs := (ht.mem_cs i (by omega) c).2 ⟨hci, a3⟩
            obtain ⟨k, hk1, hk2⟩ := List.getElem_of_mem hmem
            have hk3 : (T i).cs[k]? = some c := by rw [List.getElem?_eq_getElem hk1, hk2]
            obtain ⟨g1, g2, g3⟩ := ht.hist i (by omega)
            obtain ⟨u, e1, e2⟩ := backA_spec (T i).cs (T i).hist hbk k c _ hk3 (g2 k c hk3) (fun l c' hl hc' => by
              have hc'm := (ht.mem_cs i (by omega) c').1 (List.mem_of_getElem? hc')
              have hle : c ≤ c' := by
                by_cases e : l = k
                · subst e; rw [hk3] at hc'; cases hc'; exact Nat.le_refl _
                · exact Nat.le_of_lt (g3 l k c' c (by omega) hc' hk3)
              exact hno c' (by omega) hc'm.1 hc'm.2)
            rw [e1, e2]
        · rintro ⟨j, x⟩ hpx
          obtain ⟨h1, h2⟩ := List.mem_filter.1 hpx
          obtain ⟨q1, q2, q3, q4⟩ := (ht.mem_A h.ok i (by omega) j x).1 h1
          exact ⟨by show j < _; omega, h.anc (by omega) h2, q2, q3, fun c hc hch => q4 c (by omega) hch⟩
      · -- on in time
        rcases (mOf_spec (ops := ops) (T := T) D ops.size).1 with h0 | ⟨j, hj, hm, hDj, hcj⟩
        · omega
        · have hji : i < j := by
            have : j ≠ i := by intro e; subst e; rw [h.no] at hDj; cases hDj
            omega
          obtain ⟨_, _, _, s', _, hrda, hTj⟩ := chB_step ht hj hcj
          rw [hm]
          refine ⟨(T (j + 1)).A, ?_, ?_⟩
          · have hin0 : (i, ops[i], (T i).s, v) ∈ (T (i + 1)).rd := by rw [hy]; exact List.mem_cons_self
            have hin := ht.mem_rd hin0 (j - (i + 1)) (by omega)
            rw [show i + 1 + (j - (i + 1)) = j by omega] at hin
            have hc := List.all_eq_true.1 hrda _ hin
            simp only [(h.not hj hDj).2, Bool.false_or] at hc
            have hTA : (T (j + 1)).A = (T j).A.filter fun p => !ancA b j p.1 := by rw [hTj]
            have hTH : (T (j + 1)).s.H = s'.H := by rw [hTj]
            rw [hTA, hTH]
            cases hr : readsA P r0 b ((T j).A.filter fun p => !ancA b j p.1) i ops[i] (T i).s s'.H with
            | none => rw [hr] at hc; cases hc
            | some u => rw [hr] at hc; rw [veq_eq u v hc]
          · rintro ⟨q, x⟩ hpx
            obtain ⟨h1, h2⟩ := List.mem_filter.1 hpx
            obtain ⟨q1, q2, q3, q4⟩ := (ht.mem_A h.ok (j + 1) (by omega) q x).1 h1
            exact ⟨by show q < _; omega, h.anc (by omega) h2, q2, q3, fun c hc hch => q4 c (by omega) hch⟩
    obtain ⟨A1, hread, hpend⟩ := key
    unfold readsA at hread
    split at hread
    case h_2 => cases hread
    rename_i u H1 hop
    cases hread
    obtain ⟨rfl, _⟩ := read_same hk hop
    rw [opA_congr ops[i] _ (fun x hx => (hev x hx).symm)] at hop
    have hlay := hinv.hr.lay hr0 _ hpend
    refine (opA_sound hinv.fr.ev hlay hop).wp fun β' v' w' l vr hr' b' => ?_
    refine ⟨β', _, hinv.slots h ht hchi (x := (T i).s) (by rw [hy]) hTn l vr ?_ b'⟩
    rw [XD_same (by simp [alB, hp, hk])]
    exact HR.unlay hr0 _ hpend (fun p hp => hinv.hr.disj _ _ ((hpend p hp).xd X)) hxn hr'
  | cha hw hk hcs s' hop hrd hy =>
    refine wpOp_wanted hp (hwan.trans hw) ?_
    have hch : chB ops T i = true := by simp [chB, hp, hk, hw]
    have hm := h.atChain ht hch
    have hm' := h.plusChain ht hch
    have hat := ht.atM (i := i) (by omega)
    rw [← hm] at hat
    have hmi : mOf ops T D ops.size ≤ i := by rw [hm]; exact mOf_le _ _
    have hnone : ∀ c, mOf ops T D ops.size ≤ c → c < i → chB ops T c = false := fun c h1 h2 => mOf_none (fun _ => true) i c (by rw [← hm]; exact h1) h2 rfl
    have hpend : ∀ p ∈ (T i).A.filter (fun p => ancA b i p.1), Pend P ops T b D (mOf ops T D ops.size) p := by
      rintro ⟨j, x⟩ hpx
      obtain ⟨h1, h2⟩ := List.mem_filter.1 hpx
      obtain ⟨q1, q2, q3, q4⟩ := (ht.mem_A h.ok i (by omega) j x).1 h1
      exact ⟨by show j < _; omega, h.anc (by omega) h2, q2, q3, fun c hc hch => q4 c (by omega) hch⟩
    have hlay := hinv.hr.lay hr0 _ hpend
    obtain ⟨v, H', d', hs', hdo⟩ := doOp_shape hop
    have hdo2 := hdo { s with H := layA r0 (T i).s.H ((T i).A.filter fun p => ancA b i p.1), d := (T i).s.d } (fun x hx => hev x hx) rfl rfl
    have hSR : SR β (XM r0 (XD P ops T b r0 X D (mOf ops T D ops.size)) ((T i).A.filter fun p => ancA b i p.1)) base { s with H := layA r0 (T i).s.H ((T i).A.filter fun p => ancA b i p.1), d := (T i).s.d } a w :=
      ⟨hinv.fr, by rw [hat.2]; exact hinv.df, by rw [hat.1]; exact hlay⟩
    have hXeq : XM r0 (XD P ops T b r0 X D (mOf ops T D ops.size)) ((T i).A.filter fun p => ancA b i p.1) = XD P ops T b r0 X (plus D i) (i + 1) := by
      funext id
      by_cases hrng : r0 ≤ id ∧ id < r0 + (ops.size + 1)
      · obtain ⟨j, rfl⟩ : ∃ j, id = r0 + j := ⟨id - r0, by omega⟩
        have hjs : j < ops.size + 1 := by omega
        by_cases hji : j = i
        · subst hji
          have hal : alB ops T j = false := by simp [alB, hp, hk]
          rw [XM_other (fun p hp' e => by have := (hpend p hp').al; rw [show p.1 = j by omega, hal] at this; cases this)]
          simp [XD, hrng, hal]
        · have hpl : plus D i j = D j := by simp [plus, hji]
          by_cases hpn : D j = true ∧ alB ops T j = true
          · have hjn : j < ops.size := by
              by_cases e : j = ops.size
              · rw [e, hDn] at hpn; cases hpn.1
              · omega
            cases hai : ancA b i j with
            | true =>
              -- wanted by i
              have h2 : XD P ops T b r0 X (plus D i) (i + 1) (r0 + j) = none := by
                simp only [XD, Nat.add_sub_cancel_left, hpl]
                rw [if_pos hrng, if_pos hpn, if_pos]
                exact List.any_eq_true.2 ⟨i, by simp, by simp [hch, hai]⟩
              rw [h2]
              by_cases hmem : ∃ p ∈ (T i).A.filter (fun p => ancA b i p.1), r0 + p.1 = r0 + j
              · obtain ⟨p, hp', e⟩ := hmem
                rw [← e]; exact XM_key hp'
              · rw [XM_other (fun p hp' e => hmem ⟨p, hp', e⟩)]
                simp only [XD, Nat.add_sub_cancel_left]
                rw [if_pos hrng, if_pos hpn]
                split
                · rfl
                · rename_i hmg
                  exfalso
                  have hji2 := h.ok.lt i hi j hjn hai
                  have hbo : ∃ x, blkO P ops T j = some x := by
                    have hal := hpn.2
                    unfold alB at hal
                    rw [op_at hjn] at hal
                    simp only [Bool.and_eq_true, beq_iff_eq] at hal
                    cases ht.step j _ (op_at hjn) with
                    | all hw2 hk2 r2 h2 hy2 => exact ⟨r2.2, by simp [blkO, op_at hjn, h2]⟩
                    | dis hw2 hy2 => rw [hw2] at hal; cases hal.1
                    | qui hw2 hk2 => rw [hk2] at hal; cases hal.2
                    | rea hw2 hk2 => rw [hk2] at hal; cases hal.2
                    | cha hw2 hk2 => rw [hk2] at hal; cases hal.2
                  obtain ⟨x, hx⟩ := hbo
                  refine hmem ⟨(j, x), List.mem_filter.2 ⟨(ht.mem_A h.ok i (by omega) j x).2 ⟨hji2, hpn.2, hx, fun c hc hcc => ?_⟩, hai⟩, rfl⟩
                  have hcm : c < mOf ops T D ops.size := by
                    rcases Nat.lt_or_ge c (mOf ops T D ops.size) with k | k
                    · exact k
                    · have := hnone c k hc; rw [hcc] at this; cases this
                  cases hac : ancA b c j with
                  | false => rfl
                  | true =>
                    refine absurd (List.any_eq_true.2 ⟨c, by simpa using hcm, ?_⟩) hmg
                    simp [hcc, hac]
            | false =>
              rw [XM_other (fun p hp' e => by
                have := (List.mem_filter.1 hp').2
                rw [show p.1 = j by omega, hai] at this; cases this)]
              simp only [XD, Nat.add_sub_cancel_left, hpl]
              rw [if_pos hrng, if_pos hpn, if_pos hrng, if_pos hpn]
              have e : ((List.range (mOf ops T D ops.size)).any fun c => chB ops T c && ancA b c j) = ((List.range (i + 1)).any fun c => chB ops T c && ancA b c j) := by
                rw [Bool.eq_iff_iff]
                simp only [List.any_eq_true, List.mem_range, Bool.and_eq_true]
                constructor
                · rintro ⟨c, hc, h1, h2⟩; exact ⟨c, by omega, h1, h2⟩
                · rintro ⟨c, hc, h1, h2⟩
                  refine ⟨c, ?_, h1, h2⟩
                  by_cases e : c = i
                  · subst e; rw [hai] at h2; cases h2
                  · rcases Nat.lt_or_ge c (mOf ops T D ops.size) with k | k
                    · exact k
                    · have := hnone c k (by omega); rw [h1] at this; cases this
              rw [e]
          · rw [XM_other (fun p hp' e => hpn (by have h1 := (hpend p hp').D; have h2 := (hpend p hp').al; rw [show p.1 = j by omega] at h1 h2; exact ⟨h1, h2⟩))]
            simp only [XD, Nat.add_sub_cancel_left, hpl]
            rw [if_pos hrng, if_neg hpn, if_pos hrng, if_neg hpn]
      · rw [XM_other (fun p hp' e => hrng (by have := (hpend p hp').lt; omega))]
        simp [XD, hrng]
    refine doOp_sound hN hcl hdo2 hSR (fun _ β' a' w' l hs2 b' => ?_) (fun v e => by cases e) (.inl rfl)
    rw [hXeq] at hs2
    have hTs : (T (i + 1)).s = ({ (T i).s with H := H', d := d' } : St).put ops[i].dst v := by rw [hy, hs']
    refine ⟨β', _, hinv.le.trans l, hs2.fr, by simp [hinv.sn], ?_, ?_, ?_, hinv.bl.trans b'⟩
    · exact slots_step h ht hinv.sn hinv.sl (fun t hn => hinv.fr.2.2 t (by rw [hinv.sn]; exact hn)) hTs hTn { s with H := H', d := d' } rfl rfl
    · rw [hm', hTs]; have := hs2.df; simpa using this
    · rw [hm', hTs]; have := hs2.hr; simpa using this
end
end Go.Am
namespace Go.Am
open Go.RowKit
section
variable {P : Program} {cl : Cl} {ops : Array Oper} {b : Array Nat} {r0 : Nat} {T : Nat → DS} {N : Nat} {β0 : Ren} {X : XF} {base : Nat} {w0 : World}
def setOf (l : Array Bool) : Nat → Bool := fun j => l.getD j false
def cnt (n : Nat) (l : Array Bool) : Nat := ((List.range n).filter fun j => !l.getD j true).length
theorem cnt_set {n i : Nat} {l : Array Bool} (hl : l.size = n) (hi : i < n) (h : l.getD i true = false) : cnt n l = cnt n (l.setIfInBounds i true) + 1 := by
  have key : ∀ (m : Nat), m ≤ n → ((List.range m).filter fun j => !l.getD j true).length = ((List.range m).filter fun j => !(l.setIfInBounds i true).getD j true).length + (if i < m then 1 else 0) := by
    intro m
    induction m with
    | zero => intro _; simp
    | succ m ih =>
      intro hm
      have ih := ih (by omega)
      rw [List.range_succ, List.filter_append, List.filter_append, List.length_append, List.length_append, ih]
      by_cases e : m = i
      · subst e
        have e1 : ((l.setIfInBounds m true).getD m true) = true := by simp [Array.getD_eq_getD_getElem?, hl, hi]
        have e2 : (List.filter (fun j => !l.getD j true) [m]).length = 1 := by rw [List.filter_cons, h]; rfl
        have e3 : (List.filter (fun j => !(l.setIfInBounds m true).getD j true) [m]).length = 0 := by rw [List.filter_cons, e1]; rfl
        rw [e2, e3, if_neg (by omega), if_pos (by omega)]
      · have e1 : ((l.setIfInBounds i true).getD m true) = l.getD m true := getD_set_ne true (Ne.symm e)
        have e2 : List.filter (fun j => !(l.setIfInBounds i true).getD j true) [m] = List.filter (fun j => !l.getD j true) [m] := by simp only [List.filter_cons, e1, List.filter_nil]
        rw [e2]
        by_cases h2 : i < m
        · rw [if_pos h2, if_pos (by omega)]; omega
        · rw [if_neg h2, if_neg (by omega)]; omega
  have := key n (Nat.le_refl _)
  rw [if_pos hi] at this
  exact this
theorem cnt_zero {n : Nat} {l : Array Bool} (hl : l.size = n) (h : cnt n l = 0) : ∀ j, j < n → l.getD j false = true := by
  intro j hj
  have h1 : ((List.range n).filter fun j => !l.getD j true) = [] := List.length_eq_zero_iff.1 h
  have h2 := List.filter_eq_nil_iff.1 h1 j (List.mem_range.2 hj)
  have hj' : j < l.size := by omega
  simp [hj'] at h2 ⊢
  exact h2
theorem setOf_set {l : Array Bool} {i : Nat} (hi : i < l.size) : setOf (l.setIfInBounds i true) = plus (setOf l) i := by
  funext j
  unfold setOf plus
  by_cases e : j = i
  · subst e; simp [hi]
  · rw [if_neg e]; exact getD_set_ne false (Ne.symm e)
theorem ready_empty (ok : OkD ops b) {l : Array Bool} (hl : l.size = ops.size) (h : Region.ready .any ops l = []) : ∀ j, j < ops.size → l.getD j false = true := by
  intro j
  induction j using Nat.strongRecOn with
  | _ j ih =>
    intro hj
    have hjl : j < l.size := by omega
    cases hg : l.getD j false with
    | true => rfl
    | false =>
      have : j ∈ Region.ready .any ops l := by
        rw [mem_ready]
        refine ⟨?_, ops[j], op_at hj, fun e he hb => ih e.on (ok.back j hj e he hb) (by have := ok.back j hj e he hb; omega)⟩
        simp [hjl] at hg ⊢
        exact hg
      rw [h] at this
      cases this
theorem any_sound (hN : NameOk P) (hcl : SoundK P cl) (hr0 : base0 ≤ r0) (ok : OkD ops b) (ht : Tra P cl ops b r0 T N) {Q : Exit → Act → World → Prop}
    (hQ : ∀ (D : Nat → Bool) a w β s, (∀ j, j < ops.size → D j = true) → Inv P ops b r0 T N β0 X base w0 D a w β s → Q .normal a w) :
    ∀ (fuel : Nat) (l : Array Bool) (a : Act) (w : World), l.size = ops.size → Closed ops (setOf l) → cnt ops.size l ≤ fuel → (∃ β s, Inv P ops b r0 T N β0 X base w0 (setOf l) a w β s) →
      wpAny P .any ops Q fuel l a w := by
  intro fuel
  induction fuel with
  | zero =>
    intro l a w hl hc hn ⟨β, s, hinv⟩
    have hall := cnt_zero hl (by omega)
    refine ⟨?_, hQ _ a w β s hall hinv⟩
    cases hr : Region.ready .any ops l with
    | nil => rfl
    | cons j rest =>
      have hj : j ∈ Region.ready .any ops l := by rw [hr]; simp
      obtain ⟨h1, o, ho, _⟩ := mem_ready.1 hj
      have hjs : j < ops.size := by
        rcases Nat.lt_or_ge j ops.size with k | k
        · exact k
        · rw [Array.getElem?_eq_none k] at ho; cases ho
      have h2 := hall j hjs
      have hjl : j < l.size := by omega
      simp [hjl] at h1 h2
      rw [h1] at h2; cases h2
  | succ fuel ih =>
    intro l a w hl hc hn hinv
    refine ⟨fun hr => ?_, fun i hi => ?_⟩
    · obtain ⟨β, s, hinv⟩ := hinv
      exact hQ _ a w β s (ready_empty ok hl hr) hinv
    · obtain ⟨h1, o, ho, hed⟩ := mem_ready.1 hi
      have his : i < ops.size := by
        rcases Nat.lt_or_ge i ops.size with k | k
        · exact k
        · rw [Array.getElem?_eq_none k] at ho; cases ho
      rw [op_at his] at ho
      cases ho
      have hil : i < l.size := by omega
      have hno : setOf l i = false := by simp [setOf, hil] at h1 ⊢; exact h1
      have hrdy : Rdy ops b (setOf l) i := ⟨ok, hc, his, hno, hed⟩
      have hDn : setOf l ops.size = false := by simp [setOf, hl]
      refine wpOp_mono (fun a' w' hinv' => ?_) (inv_step hN hcl hr0 hrdy ht hDn hinv)
      refine ih (l.setIfInBounds i true) a' w' (by simp [hl]) ?_ ?_ ?_
      · rw [setOf_set hil]
        intro j hj hD e he hb
        by_cases e1 : j = i
        · subst e1
          have := hed e he hb
          show plus (setOf l) j e.on = true
          unfold plus
          split
          · rfl
          · exact this
        · have hD' : setOf l j = true := by simpa [plus, e1] using hD
          have := hc j hj hD' e he hb
          show plus (setOf l) i e.on = true
          unfold plus
          split
          · rfl
          · exact this
      · have := cnt_set hl his h1
        omega
      · rw [setOf_set hil]; exact hinv'
theorem cur_all {D : Nat → Bool} (hD : ∀ j, j < ops.size → D j = true) (t : Tmp) : ∀ k, k ≤ ops.size → cur ops T D k t = cur ops T (fun _ => true) k t
  | 0, _ => rfl
  | k + 1, hk => by simp only [cur, hD k (by omega), cur_all hD t k (by omega)]
theorem mOf_all {D : Nat → Bool} (hD : ∀ j, j < ops.size → D j = true) : ∀ k, k ≤ ops.size → mOf ops T D k = mOf ops T (fun _ => true) k
  | 0, _ => rfl
  | k + 1, hk => by simp only [mOf, hD k (by omega), mOf_all hD k (by omega)]
theorem FR.slots {β : Ren} {s s2 : St} {a : Act} (h : FR β s a) (hn : s2.n = s.n) (hs : ∀ t, s2.slot t = s.slot t) (hf : ∀ t, s.n ≤ t → s2.f.get t = none) : FR β s2 a :=
  ⟨by rw [hn]; exact h.1, fun t ht => by rw [hs]; exact h.2.1 t (by rw [← hn]; exact ht), fun t ht => hf t (by rw [← hn]; exact ht)⟩
theorem HR.lower {β : Ren} {H H' : Heap} {X : XF} {base : Nat} {w : World} (h : HR β H X base w) (_e : H'.old = H.old) (eg : ∀ i, H'.get i = H.get i) (hb : base0 ≤ H'.next) (hf : ∀ i, H'.next ≤ i → β i = .un)
    (hx : ∀ i x, X i = some x → i < H'.next) : HR β H' X base w :=
  ⟨hb, hf, fun i x hi => (eg i).trans (h.disj i x hi), hx, h.res, fun i x hi => h.blk i x (by simpa [getX, eg] using hi), fun i T hT => by obtain ⟨x, hx⟩ := h.live i T hT; exact ⟨x, by simpa [getX, eg] using hx⟩, h.inj, h.sz⟩
theorem regionD_sound (hM : P.follows .mixedOrders = true) (hN : NameOk P) : ∀ cl, SoundK P cl → SoundD P cl := by
  intro cl hcl id ops s e s' h β X base a w hs
  unfold regionD at h
  split at h
  case isFalse => cases h
  rename_i hok
  have ok := okD_spec hok
  generalize Region.before ops = b at h ok
  obtain ⟨y, hy, h1⟩ := bind_some h
  have hres : e = .normal ∧ ((calmD ops = true ∧ s' = { y.s with H := s.H }) ∨ s' = { y.s with H := layA s.H.next y.s.H y.A }) := by
    dsimp only at h1
    split at h1
    · rename_i hc; cases h1; exact ⟨rfl, .inl ⟨hc, rfl⟩⟩
    · cases h1; exact ⟨rfl, .inr rfl⟩
  obtain ⟨rfl, hres⟩ := hres
  obtain ⟨T, t1, t2, t3⟩ := runD_trace ops.toList 0 _ y (by simp) hy
  have t2' : T ops.size = y := by simpa using t2
  have hr0 : base0 ≤ s.H.next := hs.hr.next
  have ht : Tra P cl ops b s.H.next T s.n :=
    ⟨fun j o ho => stepK (t3 j o (Nat.zero_le _) ho), by rw [t1], fun t htn => by rw [t1]; exact hs.fr.2.2 t htn, by rw [t1], by rw [t1], by rw [t1], by rw [t1]⟩
  refine wp_region_any hM ?_
  have hm0 : ∀ k, mOf ops T (setOf (Array.replicate ops.size false)) k = 0 := by
    intro k
    induction k with
    | zero => rfl
    | succ k ih =>
      simp only [mOf, ih]
      rw [if_neg]
      rintro ⟨h, _⟩
      simp [setOf, Array.getElem?_replicate] at h
      split at h <;> simp at h
  have hfalse : ∀ k, setOf (Array.replicate ops.size false) k = false := by
    intro k
    simp only [setOf, Array.getD_eq_getD_getElem?, Array.getElem?_replicate]
    split <;> rfl
  have hc0 : ∀ t k, cur ops T (setOf (Array.replicate ops.size false)) k t = (T 0).s.slot t := by
    intro t k
    induction k with
    | zero => rfl
    | succ k ih => simp only [cur, ih, hfalse]; simp
  refine any_sound (β0 := β) (X := X) (base := base) (w0 := w) hN hcl hr0 ok ht ?_ ops.size _ a _ (by simp) (fun j hj hD => by rw [hfalse] at hD; cases hD) ?_ ?_
  · -- the end
    intro D a2 w2 β2 s2 hD hinv
    have hcl2 : Closed ops D := fun j hj _ e he hb => hD e.on (by have := ok.back j hj e he hb; omega)
    have hm := mOf_all (T := T) hD ops.size (Nat.le_refl _)
    have hat := ht.atM (i := ops.size) (Nat.le_refl _)
    rw [← hm] at hat
    have hpend : ∀ p ∈ (T ops.size).A, Pend P ops T b D (mOf ops T D ops.size) p := by
      rintro ⟨j, x⟩ hpx
      obtain ⟨q1, q2, q3, q4⟩ := (ht.mem_A ok ops.size (Nat.le_refl _) j x).1 hpx
      have := mOf_le (ops := ops) (T := T) D ops.size
      exact ⟨q1, hD j q1, q2, q3, fun c hc hch => q4 c (by omega) hch⟩
    have hlay := hinv.hr.lay hr0 _ hpend
    rw [← hat.1] at hlay
    have hfin : SR β2 X base { y.s with H := layA s.H.next y.s.H y.A } a2 w2 := by
     refine ⟨?_, ?_, ?_⟩
     · have hTn := ht.n ops.size (Nat.le_refl _)
       refine hinv.fr.slots ?_ ?_ ?_
       · show y.s.n = s2.n
         rw [← t2', hTn.1, hinv.sn]
       · intro t
         show y.s.slot t = s2.slot t
         rw [← t2', hinv.sl, cur_all hD t ops.size (Nat.le_refl _), ht.cur ops.size (Nat.le_refl _) t]
       · intro t htn
         show y.s.f.get t = none
         rw [← t2']; exact hTn.2 t (by rw [← hinv.sn]; exact htn)
     · show DL β2 y.s.d a2.defers
       rw [← t2', hat.2]; exact hinv.df
     · show HR β2 (layA s.H.next y.s.H y.A) X base w2
       rw [← t2']
       have hXn : ∀ id, s.H.next ≤ id → X id = none := fun id hid => hs.hr.xnext hid
       refine hlay.congr ?_ (Nat.le_refl _) hlay.fresh ?_ ?_
       · intro id
         by_cases hrng : s.H.next ≤ id ∧ id < s.H.next + (ops.size + 1)
         · have e1 : (XM s.H.next (XD P ops T b s.H.next X D (mOf ops T D ops.size)) (T ops.size).A id).join = none := by
             by_cases hk : ∃ p ∈ (T ops.size).A, s.H.next + p.1 = id
             · obtain ⟨p, hp, rfl⟩ := hk
               rw [XM_key hp]; rfl
             · rw [XM_other (fun p hp e => hk ⟨p, hp, e⟩)]
               unfold XD
               rw [if_pos hrng]
               split
               · rename_i hpn
                 split
                 · rfl
                 · rename_i hmg
                   exfalso
                   obtain ⟨j, rfl⟩ : ∃ j, id = s.H.next + j := ⟨id - s.H.next, by omega⟩
                   simp only [Nat.add_sub_cancel_left] at hpn hmg
                   have hjn : j < ops.size := by
                     by_cases e : j < ops.size
                     · exact e
                     · have hal := hpn.2
                       unfold alB at hal
                       rw [Array.getElem?_eq_none (by omega)] at hal
                       cases hal
                   have hbo : ∃ x, blkO P ops T j = some x := by
                     have hal := hpn.2
                     unfold alB at hal
                     rw [op_at hjn] at hal
                     simp only [Bool.and_eq_true, beq_iff_eq] at hal
                     cases ht.step j _ (op_at hjn) with
                     | all hw2 hk2 r2 h2 hy2 => exact ⟨r2.2, by simp [blkO, op_at hjn, h2]⟩
                     | dis hw2 hy2 => rw [hw2] at hal; cases hal.1
                     | qui hw2 hk2 => rw [hk2] at hal; cases hal.2
                     | rea hw2 hk2 => rw [hk2] at hal; cases hal.2
                     | cha hw2 hk2 => rw [hk2] at hal; cases hal.2
                   obtain ⟨x, hx⟩ := hbo
                   refine hk ⟨(j, x), (ht.mem_A ok ops.size (Nat.le_refl _) j x).2 ⟨hjn, hpn.2, hx, fun c hc hcc => ?_⟩, rfl⟩
                   have hcm := (mOf_spec (ops := ops) (T := T) D ops.size).2 c hc (hD c hc) hcc
                   cases hac : ancA b c j with
                   | false => rfl
                   | true =>
                     refine absurd (List.any_eq_true.2 ⟨c, by simpa using hcm, ?_⟩) hmg
                     simp [hcc, hac]
               · rfl
           simp only [getX, e1, hXn id hrng.1]
           rfl
         · have e1 : XM s.H.next (XD P ops T b s.H.next X D (mOf ops T D ops.size)) (T ops.size).A id = X id := by
             rw [XM_other (fun p hp e => hrng (by have := (hpend p hp).lt; omega))]
             unfold XD
             rw [if_neg hrng]
           simp only [getX, e1]
       · intro id x hx
         have hrng : ¬ (s.H.next ≤ id ∧ id < s.H.next + (ops.size + 1)) := fun hr => by rw [hXn id hr.1] at hx; cases hx
         have e1 : XM s.H.next (XD P ops T b s.H.next X D (mOf ops T D ops.size)) (T ops.size).A id = X id := by
           rw [XM_other (fun p hp e => hrng (by have := (hpend p hp).lt; omega))]
           unfold XD
           rw [if_neg hrng]
         rw [← e1] at hx
         exact ⟨hlay.disj id x hx, hlay.xlt id x hx⟩
       · intro id hx
         have hrng : ¬ (s.H.next ≤ id ∧ id < s.H.next + (ops.size + 1)) := fun hr => by rw [hXn id hr.1] at hx; cases hx
         have e1 : XM s.H.next (XD P ops T b s.H.next X D (mOf ops T D ops.size)) (T ops.size).A id = X id := by
           rw [XM_other (fun p hp e => hrng (by have := (hpend p hp).lt; omega))]
           unfold XD
           rw [if_neg hrng]
         rw [← e1] at hx
         exact hlay.res id hx
    rcases hres with ⟨hcalm, rfl⟩ | rfl
    · -- it only read
      have hkd : ∀ j (hj : j < ops.size), kdA ops[j] = .quiet ∨ kdA ops[j] = .read := by
        intro j hj
        have := List.all_eq_true.1 hcalm ops[j] (by simp)
        simpa using this
      have hch : ∀ j, chB ops T j = false := by
        intro j
        unfold chB
        by_cases hj : j < ops.size
        · rw [op_at hj]; rcases hkd j hj with k | k <;> simp [k]
        · rw [Array.getElem?_eq_none (by omega)]
      have hal : ∀ j, alB ops T j = false := by
        intro j
        unfold alB
        by_cases hj : j < ops.size
        · rw [op_at hj]; rcases hkd j hj with k | k <;> simp [k]
        · rw [Array.getElem?_eq_none (by omega)]
      have hm0' : mOf ops T D ops.size = 0 := by
        rcases (mOf_spec (ops := ops) (T := T) D ops.size).1 with h0 | ⟨j, _, _, _, hc⟩
        · exact h0
        · rw [hch j] at hc; cases hc
      have hA : y.A = [] := by
        rw [← t2']
        cases hA : (T ops.size).A with
        | nil => rfl
        | cons p rest =>
          obtain ⟨j, x⟩ := p
          have := (ht.mem_A ok ops.size (Nat.le_refl _) j x).1 (by rw [hA]; simp)
          rw [hal j] at this; cases this.2.1
      have hH : y.s.H = { s.H with next := s.H.next + ops.size + 1 } := by rw [← t2', hat.1, hm0', t1]
      rw [hA, hH] at hfin
      refine ⟨β2, hinv.le, .normal, ⟨hfin.fr, hfin.df, ?_⟩, hinv.bl⟩
      have hr2 := hfin.hr
      refine hr2.lower rfl (fun id => rfl) hs.hr.next (fun id hid => ?_) (fun id x hx => hs.hr.xlt id x hx)
      have hr3 := hinv.hr
      rw [hm0', t1] at hr3
      by_cases hrng : id < s.H.next + (ops.size + 1)
      · refine hr3.res id ?_
        unfold XD
        have hid' : s.H.next ≤ id := hid
        rw [if_pos ⟨hid', hrng⟩, if_neg]
        rw [hal]; simp
      · exact hr3.fresh id (by show s.H.next + ops.size + 1 ≤ id; omega)
    · exact ⟨β2, hinv.le, .normal, hfin, hinv.bl⟩
  · unfold cnt
    exact Nat.le_trans (List.length_filter_le _ _) (by simp)
  · -- the start
    refine ⟨β, (T 0).s, Le.refl β, ?_, by rw [t1], fun t => (hc0 t _).symm, ?_, ?_, (Below.refl base w).drew⟩
    · rw [t1]; exact hs.fr
    · rw [hm0, t1]; exact hs.df
    · rw [hm0, t1]
      have hb := hs.hr.drew
      refine hb.congr ?_ (by show s.H.next ≤ s.H.next + ops.size + 1; omega) (fun id hid => hb.fresh id (by have : s.H.next + ops.size + 1 ≤ id := hid; omega)) ?_ ?_
      · intro id
        have e0 : ({ s.H with next := s.H.next + ops.size + 1 } : Heap).get id = s.H.get id := rfl
        by_cases hrng : s.H.next ≤ id ∧ id < s.H.next + (ops.size + 1)
        · have e1 : XD P ops T b s.H.next X (setOf (Array.replicate ops.size false)) 0 id = some none := by
            unfold XD
            rw [if_pos hrng, if_neg]
            rw [hfalse]; simp
          simp only [getX, e0, e1, hb.xnext hrng.1]
          rfl
        · have e1 : XD P ops T b s.H.next X (setOf (Array.replicate ops.size false)) 0 id = X id := by
            unfold XD
            rw [if_neg hrng]
          simp only [getX, e0, e1]
      · intro id x hx
        show s.H.get id = none ∧ id < s.H.next + ops.size + 1
        by_cases hrng : s.H.next ≤ id ∧ id < s.H.next + (ops.size + 1)
        · refine ⟨?_, by omega⟩
          cases hg : s.H.get id with
          | none => rfl
          | some q =>
            obtain ⟨U, hU, _⟩ := hb.mem hg
            rw [hb.fresh id hrng.1] at hU; cases hU
        · have e1 : XD P ops T b s.H.next X (setOf (Array.replicate ops.size false)) 0 id = X id := by
            unfold XD
            rw [if_neg hrng]
          rw [e1] at hx
          have := hb.xlt id x hx
          exact ⟨hb.disj id x hx, by omega⟩
      · intro id hx
        by_cases hrng : s.H.next ≤ id ∧ id < s.H.next + (ops.size + 1)
        · exact hb.fresh id hrng.1
        · have e1 : XD P ops T b s.H.next X (setOf (Array.replicate ops.size false)) 0 id = X id := by
            unfold XD
            rw [if_neg hrng]
          rw [e1] at hx
          exact hb.res id hx
theorem am_sound (hM : P.follows .mixedOrders = true) (hN : NameOk P) {k : Nat} {f : FuncId} {args : Array Value} {H H' : Heap} {r : CR} (h : call P k f args H = some (r, H')) {β : Ren} {X : XF} {base : Nat} {w : World}
    {args' : Array Value} (ha : LR β args.toList args'.toList) (hr : HR β H X base w) : Calls P f args' w (CPost β X base w r H') :=
  ((lvl_sound hN (regionD_sound hM hN) k).2 f args H r H' h).2 β X base w args' ha hr
end
end Go.Am
namespace Go.Am
section
variable {P : Program}
def SubK (c c' : Cl) : Prop := ∀ f a H r, c f a H = some r → c' f a H = some r
def SubX (x x' : CodeRun) : Prop := ∀ c s r, x c s = some r → x' c s = some r
theorem doOp_mono {c c' : Cl} (h : SubK c c') {o : Oper} {s : St} {r : Ex × St} (hr : doOp P c o s = some r) : doOp P c' o s = some r := by
  unfold doOp at hr ⊢
  obtain ⟨⟨q, H⟩, hq, h1⟩ := bind_some hr
  rw [hq]
  cases q with
  | call f args =>
    obtain ⟨q2, hq2, h2⟩ := bind_some h1
    show (do match ← c' f args H with | (.ret v, H) => some (Ex.normal, ({ s with H := H } : St).put o.dst v) | (.pan v, H) => some (.panic v, { s with H := H })) = some r
    rw [h f args H q2 hq2]
    exact h2
  | _ => exact h1
theorem runOps_mono {c c' : Cl} (h : SubK c c') {ops : Array Oper} : ∀ (l : List Oper) (s : St) (r : Ex × St), runOps P c ops l s = some r → runOps P c' ops l s = some r
  | [], s, r, hr => hr
  | o :: l, s, r, hr => by
    simp only [runOps] at hr ⊢
    split at hr
    · rename_i hw
      rw [if_pos hw]
      cases hd : doOp P c o s with
      | none => rw [hd] at hr; cases hr
      | some q =>
        obtain ⟨e, s'⟩ := q
        rw [hd] at hr
        rw [doOp_mono h hd]
        cases e with
        | normal => exact runOps_mono h l s' r hr
        | _ => exact hr
    · rename_i hw
      rw [if_neg hw]
      exact runOps_mono h l _ r hr
theorem stepD_mono {c c' : Cl} (h : SubK c c') {ops : Array Oper} {b : Array Nat} {r0 i : Nat} {o : Oper} {x y : DS} (hr : stepD P c ops b r0 i o x = some y) : stepD P c' ops b r0 i o x = some y := by
  unfold stepD at hr ⊢
  split at hr
  · rename_i hw
    rw [if_pos hw]
    split at hr
    · exact hr
    · exact hr
    · exact hr
    · split at hr
      · rename_i hcs
        rw [if_pos hcs]
        obtain ⟨q, hq, h1⟩ := bind_some hr
        show (doOp P c' o { x.s with H := layA r0 x.s.H (x.A.filter fun p => ancA b i p.1) } >>= _) = _
        rw [doOp_mono h hq]
        exact h1
      · cases hr
  · rename_i hw
    rw [if_neg hw]
    exact hr
theorem runD_mono {c c' : Cl} (h : SubK c c') {ops : Array Oper} {b : Array Nat} {r0 : Nat} : ∀ (l : List Oper) (i : Nat) (x y : DS), runD P c ops b r0 i l x = some y → runD P c' ops b r0 i l x = some y
  | [], i, x, y, hr => hr
  | o :: l, i, x, y, hr => by
    simp only [runD] at hr ⊢
    obtain ⟨q, hq, h1⟩ := bind_some (x := stepD P c ops b r0 i o x) hr
    rw [stepD_mono h hq]
    exact runD_mono h l (i + 1) q y h1
theorem regionD_mono {c c' : Cl} (h : SubK c c') {ops : Array Oper} {s : St} {r : Ex × St} (hr : regionD P c ops s = some r) : regionD P c' ops s = some r := by
  unfold regionD at hr ⊢
  split at hr
  · rename_i hk
    rw [if_pos hk]
    obtain ⟨q, hq, h1⟩ := bind_some hr
    show (runD P c' ops _ _ 0 ops.toList _ >>= _) = _
    rw [runD_mono h _ _ _ _ hq]
    exact h1
  · cases hr
theorem stepC_mono {c c' : Cl} {x x' : CodeRun} (h : SubK c c') (k : SubX x x') : SubX (stepC P c x) (stepC P c' x') := by
  intro q s r hr
  cases q with
  | region id ops draw =>
    simp only [stepC] at hr ⊢
    split at hr
    · rename_i hd; rw [if_pos hd]; exact regionD_mono h hr
    · rename_i hd; rw [if_neg hd]; exact runOps_mono h _ _ _ hr
  | seq a b =>
    simp only [stepC] at hr ⊢
    cases ha : x a s with
    | none => rw [ha] at hr; cases hr
    | some q =>
      obtain ⟨e, s'⟩ := q
      rw [ha] at hr
      rw [k _ _ _ ha]
      cases e with
      | normal => exact k _ _ _ hr
      | _ => exact hr
  | cond o a b =>
    simp only [stepC] at hr ⊢
    split at hr
    · exact k _ _ _ hr
    · cases hr
  | block id a =>
    simp only [stepC] at hr ⊢
    cases ha : x a s with
    | none => rw [ha] at hr; cases hr
    | some q =>
      obtain ⟨e, s'⟩ := q
      rw [ha] at hr
      rw [k _ _ _ ha]
      exact hr
  | loop a =>
    simp only [stepC] at hr ⊢
    cases ha : x a s with
    | none => rw [ha] at hr; cases hr
    | some q =>
      obtain ⟨e, s'⟩ := q
      rw [ha] at hr
      rw [k _ _ _ ha]
      cases e with
      | normal => exact k _ _ _ hr
      | _ => exact hr
  | _ => exact hr
theorem runOpsS_mono {c c' : Cl} (h : SubK c c') {ops : Array Oper} : ∀ (l : List Oper) (p : Option Value) (s : St) (r : Ex × Option Value × St), runOpsS P c ops l p s = some r → runOpsS P c' ops l p s = some r
  | [], p, s, r, hr => hr
  | o :: l, p, s, r, hr => by
    simp only [runOpsS] at hr ⊢
    split at hr
    · rename_i hw
      rw [if_pos hw]
      split at hr
      · rename_i hrec
        rw [if_pos hrec]
        cases p with
        | some v => exact runOpsS_mono h l _ _ r hr
        | none => exact runOpsS_mono h l _ _ r hr
      · rename_i hrec
        rw [if_neg hrec]
        cases hd : doOp P c o s with
        | none => rw [hd] at hr; cases hr
        | some q =>
          obtain ⟨e, s'⟩ := q
          rw [hd] at hr
          rw [doOp_mono h hd]
          cases e with
          | normal => exact runOpsS_mono h l p s' r hr
          | _ => exact hr
    · rename_i hw
      rw [if_neg hw]
      exact runOpsS_mono h l p _ r hr
theorem codeS_mono {c c' : Cl} {x x' : CodeRun} (h : SubK c c') (k : SubX x x') : ∀ (q : Code) (p : Option Value) (s : St) (r : Ex × Option Value × St), codeS P c x q p s = some r → codeS P c' x' q p s = some r := by
  have other : ∀ (q : Code) (p : Option Value) (s : St) (r : Ex × Option Value × St), (x q s).map (fun (e, s) => (e, p, s)) = some r → (x' q s).map (fun (e, s) => (e, p, s)) = some r := by
    intro q p s r hr
    obtain ⟨y, hy, e⟩ := map_some hr
    rw [k _ _ _ hy]
    exact congrArg some e
  intro q
  induction q with
  | seq a b iha ihb =>
    intro p s r hr
    simp only [codeS] at hr ⊢
    cases ha : codeS P c x a p s with
    | none => rw [ha] at hr; cases hr
    | some y =>
      obtain ⟨e, p', s'⟩ := y
      rw [ha] at hr
      rw [iha p s _ ha]
      cases e with
      | normal => exact ihb p' s' r hr
      | _ => exact hr
  | cond o a b iha ihb =>
    intro p s r hr
    simp only [codeS] at hr ⊢
    split at hr
    · split at hr
      · rename_i ht; rw [if_pos ht]; exact iha p s r hr
      · rename_i ht; rw [if_neg ht]; exact ihb p s r hr
    · cases hr
  | region id ops draw =>
    intro p s r hr
    simp only [codeS] at hr ⊢
    split at hr
    · rename_i hd; rw [if_pos hd]; exact other _ p s r hr
    · rename_i hd; rw [if_neg hd]; exact runOpsS_mono h _ _ _ _ hr
  | _ => intro p s r hr; simp only [codeS] at hr ⊢; exact other _ p s r hr
theorem unwind_mono {c c' : Cl} {x x' : CodeRun} (h : SubK c c') (k : SubX x x') {fn : Func} {s : St} : ∀ (ds : List Deferred) (p : Option Value) (H : Heap) (r : CR × Heap), unwindA P c x fn s ds p H = some r → unwindA P c' x' fn s ds p H = some r
  | [], none, H, r, hr => hr
  | [], some v, H, r, hr => hr
  | d :: ds, p, H, r, hr => by
    simp only [unwindA] at hr ⊢
    split at hr
    · obtain ⟨gn, hgn, h1⟩ := bind_some hr
      obtain ⟨q, hq, h2⟩ := bind_some h1
      obtain ⟨⟨e, p', s'⟩, hc, h3⟩ := bind_some h2
      simp only [hgn, hq, Option.bind_eq_bind, Option.bind_some, codeS_mono h k _ _ _ _ hc]
      cases e with
      | normal =>
        dsimp only at h3 ⊢
        split at h3
        · rename_i hd
          rw [if_pos hd]
          obtain ⟨v, hv, h4⟩ := bind_some h3
          rw [hv]
          exact unwind_mono h k ds p' s'.H r h4
        · cases h3
      | ret =>
        dsimp only at h3 ⊢
        split at h3
        · rename_i hd
          rw [if_pos hd]
          obtain ⟨v, hv, h4⟩ := bind_some h3
          rw [hv]
          exact unwind_mono h k ds p' s'.H r h4
        · cases h3
      | _ => cases h3
    · cases hr
theorem callA_mono {c c' : Cl} {x x' : CodeRun} (h : SubK c c') (k : SubX x x') : SubK (callA P c x) (callA P c' x') := by
  intro f a H r hr
  unfold callA at hr ⊢
  obtain ⟨fn, hfn, h1⟩ := bind_some hr
  obtain ⟨q, hq, h2⟩ := bind_some h1
  obtain ⟨⟨e, s⟩, he, h3⟩ := bind_some h2
  simp only [hfn, hq, Option.bind_eq_bind, Option.bind_some, k _ _ _ he]
  cases e with
  | normal => exact unwind_mono h k _ _ _ _ h3
  | ret => exact unwind_mono h k _ _ _ _ h3
  | panic v =>
    dsimp only at h3 ⊢
    split at h3
    · rename_i hd; rw [if_pos hd]; exact unwind_mono h k _ _ _ _ h3
    · cases h3
  | exit id => cases h3
theorem lvl_mono1 : ∀ k, SubX (lvl P k).1 (lvl P (k + 1)).1 ∧ SubK (lvl P k).2 (lvl P (k + 1)).2
  | 0 => ⟨(fun _ _ _ h => by cases h), (fun _ _ _ _ h => by cases h)⟩
  | k + 1 => by
    obtain ⟨h1, h2⟩ := lvl_mono1 k
    exact ⟨stepC_mono h2 h1, callA_mono h2 h1⟩
theorem lvl_mono {i j : Nat} (h : i ≤ j) : SubX (lvl P i).1 (lvl P j).1 ∧ SubK (lvl P i).2 (lvl P j).2 := by
  obtain ⟨d, rfl⟩ : ∃ d, j = i + d := ⟨j - i, by omega⟩
  clear h
  induction d with
  | zero => exact ⟨fun _ _ _ h => h, fun _ _ _ _ h => h⟩
  | succ d ih =>
    obtain ⟨h1, h2⟩ := ih
    obtain ⟨k1, k2⟩ := lvl_mono1 (P := P) (i + d)
    exact ⟨fun c s r h => k1 c s r (h1 c s r h), fun f a H r h => k2 f a H r (h2 f a H r h)⟩
end
open Classical in
noncomputable def execW (P : Program) (c : Code) (s : St) : Option (Ex × St) := if h : ∃ r k, exec P k c s = some r then some (Classical.choose h) else none
open Classical in
noncomputable def callW (P : Program) (f : FuncId) (a : Array Value) (H : Heap) : Option (CR × Heap) := if h : ∃ r k, call P k f a H = some r then some (Classical.choose h) else none
section
variable {P : Program}
theorem execW_iff {c : Code} {s : St} {r : Ex × St} : execW P c s = some r ↔ ∃ k, exec P k c s = some r := by
  unfold execW
  constructor
  · intro h
    split at h
    · rename_i hx
      obtain ⟨k, hk⟩ := Classical.choose_spec hx
      cases h
      exact ⟨k, hk⟩
    · cases h
  · rintro ⟨k, hk⟩
    have hx : ∃ r k, exec P k c s = some r := ⟨r, k, hk⟩
    rw [dif_pos hx]
    obtain ⟨j, hj⟩ := Classical.choose_spec hx
    have h1 := (lvl_mono (P := P) (Nat.le_max_left k j)).1 c s r hk
    have h2 := (lvl_mono (P := P) (Nat.le_max_right k j)).1 c s _ hj
    rw [h1] at h2
    exact h2.symm
theorem callW_iff {f : FuncId} {a : Array Value} {H : Heap} {r : CR × Heap} : callW P f a H = some r ↔ ∃ k, call P k f a H = some r := by
  unfold callW
  constructor
  · intro h
    split at h
    · rename_i hx
      obtain ⟨k, hk⟩ := Classical.choose_spec hx
      cases h
      exact ⟨k, hk⟩
    · cases h
  · rintro ⟨k, hk⟩
    have hx : ∃ r k, call P k f a H = some r := ⟨r, k, hk⟩
    rw [dif_pos hx]
    obtain ⟨j, hj⟩ := Classical.choose_spec hx
    have h1 := (lvl_mono (P := P) (Nat.le_max_left k j)).2 f a H r hk
    have h2 := (lvl_mono (P := P) (Nat.le_max_right k j)).2 f a H _ hj
    rw [h1] at h2
    exact h2.symm
theorem doOp_fin {o : Oper} {s : St} {r : Ex × St} (hr : doOp P (callW P) o s = some r) : ∃ k, doOp P (call P k) o s = some r := by
  unfold doOp at hr
  obtain ⟨⟨q, H⟩, hq, h1⟩ := bind_some hr
  cases q with
  | call f args =>
    obtain ⟨q2, hq2, h2⟩ := bind_some h1
    obtain ⟨k, hk⟩ := callW_iff.1 hq2
    refine ⟨k, ?_⟩
    unfold doOp
    rw [hq]
    show (do match ← call P k f args H with | (.ret v, H) => some (Ex.normal, ({ s with H := H } : St).put o.dst v) | (.pan v, H) => some (.panic v, { s with H := H })) = some r
    rw [hk]
    exact h2
  | val v => exact ⟨0, by unfold doOp; rw [hq]; exact h1⟩
  | dfr v => exact ⟨0, by unfold doOp; rw [hq]; exact h1⟩
  | pan v => exact ⟨0, by unfold doOp; rw [hq]; exact h1⟩
theorem call_le {i j : Nat} (h : i ≤ j) : SubK (call P i) (call P j) := (lvl_mono h).2
theorem exec_le {i j : Nat} (h : i ≤ j) : SubX (exec P i) (exec P j) := (lvl_mono h).1
theorem runOps_fin {ops : Array Oper} : ∀ (l : List Oper) (s : St) (r : Ex × St), runOps P (callW P) ops l s = some r → ∃ k, runOps P (call P k) ops l s = some r
  | [], s, r, hr => ⟨0, hr⟩
  | o :: l, s, r, hr => by
    simp only [runOps] at hr
    split at hr
    · rename_i hw
      cases hd : doOp P (callW P) o s with
      | none => rw [hd] at hr; cases hr
      | some q =>
        obtain ⟨e, s'⟩ := q
        rw [hd] at hr
        obtain ⟨k, hk⟩ := doOp_fin hd
        cases e with
        | normal =>
          obtain ⟨j, hj⟩ := runOps_fin l s' r hr
          refine ⟨max k j, ?_⟩
          simp only [runOps]
          rw [if_pos hw, doOp_mono (call_le (Nat.le_max_left k j)) hk]
          exact runOps_mono (call_le (Nat.le_max_right k j)) l s' r hj
        | exit id => exact ⟨k, by simp only [runOps]; rw [if_pos hw, hk]; exact hr⟩
        | ret => exact ⟨k, by simp only [runOps]; rw [if_pos hw, hk]; exact hr⟩
        | panic v => exact ⟨k, by simp only [runOps]; rw [if_pos hw, hk]; exact hr⟩
    · rename_i hw
      obtain ⟨j, hj⟩ := runOps_fin l _ r hr
      exact ⟨j, by simp only [runOps]; rw [if_neg hw]; exact hj⟩
theorem stepD_fin {ops : Array Oper} {b : Array Nat} {r0 i : Nat} {o : Oper} {x y : DS} (hr : stepD P (callW P) ops b r0 i o x = some y) : ∃ k, stepD P (call P k) ops b r0 i o x = some y := by
  unfold stepD at hr
  split at hr
  · rename_i hw
    split at hr
    · rename_i hk; exact ⟨0, by unfold stepD; rw [if_pos hw, hk]; exact hr⟩
    · rename_i hk; exact ⟨0, by unfold stepD; rw [if_pos hw, hk]; exact hr⟩
    · rename_i hk; exact ⟨0, by unfold stepD; rw [if_pos hw, hk]; exact hr⟩
    · rename_i hk
      split at hr
      · rename_i hcs
        obtain ⟨q, hq, h1⟩ := bind_some hr
        obtain ⟨k, hk2⟩ := doOp_fin hq
        refine ⟨k, ?_⟩
        unfold stepD
        rw [if_pos hw, hk]
        dsimp only
        rw [if_pos hcs]
        show (doOp P (call P k) o { x.s with H := layA r0 x.s.H (x.A.filter fun p => ancA b i p.1) } >>= _) = _
        rw [hk2]
        exact h1
      · cases hr
  · rename_i hw
    exact ⟨0, by unfold stepD; rw [if_neg hw]; exact hr⟩
theorem runD_fin {ops : Array Oper} {b : Array Nat} {r0 : Nat} : ∀ (l : List Oper) (i : Nat) (x y : DS), runD P (callW P) ops b r0 i l x = some y → ∃ k, runD P (call P k) ops b r0 i l x = some y
  | [], i, x, y, hr => ⟨0, hr⟩
  | o :: l, i, x, y, hr => by
    simp only [runD] at hr
    obtain ⟨q, hq, h1⟩ := bind_some (x := stepD P (callW P) ops b r0 i o x) hr
    obtain ⟨k, hk⟩ := stepD_fin hq
    obtain ⟨j, hj⟩ := runD_fin l (i + 1) q y h1
    refine ⟨max k j, ?_⟩
    simp only [runD]
    rw [stepD_mono (call_le (Nat.le_max_left k j)) hk]
    exact runD_mono (call_le (Nat.le_max_right k j)) l (i + 1) q y hj
theorem regionD_fin {ops : Array Oper} {s : St} {r : Ex × St} (hr : regionD P (callW P) ops s = some r) : ∃ k, regionD P (call P k) ops s = some r := by
  unfold regionD at hr
  split at hr
  · rename_i hk
    obtain ⟨q, hq, h1⟩ := bind_some hr
    obtain ⟨k, hk2⟩ := runD_fin _ _ _ _ hq
    refine ⟨k, ?_⟩
    unfold regionD
    rw [if_pos hk]
    show (runD P (call P k) ops _ _ 0 ops.toList _ >>= _) = _
    rw [hk2]
    exact h1
  · cases hr
theorem stepC_fin {q : Code} {s : St} {r : Ex × St} (hr : stepC P (callW P) (execW P) q s = some r) : ∃ k, stepC P (call P k) (exec P k) q s = some r := by
  cases q with
  | region id ops draw =>
    simp only [stepC] at hr
    split at hr
    · rename_i hd
      obtain ⟨k, hk⟩ := regionD_fin hr
      exact ⟨k, by simp only [stepC]; rw [if_pos hd]; exact hk⟩
    · rename_i hd
      obtain ⟨k, hk⟩ := runOps_fin _ _ _ hr
      exact ⟨k, by simp only [stepC]; rw [if_neg hd]; exact hk⟩
  | seq a b =>
    simp only [stepC] at hr
    cases ha : execW P a s with
    | none => rw [ha] at hr; cases hr
    | some q =>
      obtain ⟨e, s'⟩ := q
      rw [ha] at hr
      obtain ⟨k, hk⟩ := execW_iff.1 ha
      cases e with
      | normal =>
        obtain ⟨j, hj⟩ := execW_iff.1 hr
        exact ⟨max k j, by simp only [stepC]; rw [exec_le (Nat.le_max_left k j) _ _ _ hk]; exact exec_le (Nat.le_max_right k j) _ _ _ hj⟩
      | exit id => exact ⟨k, by simp only [stepC]; rw [hk]; exact hr⟩
      | ret => exact ⟨k, by simp only [stepC]; rw [hk]; exact hr⟩
      | panic v => exact ⟨k, by simp only [stepC]; rw [hk]; exact hr⟩
  | cond o a b =>
    simp only [stepC] at hr
    split at hr
    · rename_i t ht
      obtain ⟨k, hk⟩ := execW_iff.1 hr
      exact ⟨k, by simp only [stepC]; rw [ht]; exact hk⟩
    · cases hr
  | block id a =>
    simp only [stepC] at hr
    cases ha : execW P a s with
    | none => rw [ha] at hr; cases hr
    | some q =>
      obtain ⟨e, s'⟩ := q
      rw [ha] at hr
      obtain ⟨k, hk⟩ := execW_iff.1 ha
      exact ⟨k, by simp only [stepC]; rw [hk]; exact hr⟩
  | loop a =>
    simp only [stepC] at hr
    cases ha : execW P a s with
    | none => rw [ha] at hr; cases hr
    | some q =>
      obtain ⟨e, s'⟩ := q
      rw [ha] at hr
      obtain ⟨k, hk⟩ := execW_iff.1 ha
      cases e with
      | normal =>
        obtain ⟨j, hj⟩ := execW_iff.1 hr
        exact ⟨max k j, by simp only [stepC]; rw [exec_le (Nat.le_max_left k j) _ _ _ hk]; exact exec_le (Nat.le_max_right k j) _ _ _ hj⟩
      | exit id => exact ⟨k, by simp only [stepC]; rw [hk]; exact hr⟩
      | ret => exact ⟨k, by simp only [stepC]; rw [hk]; exact hr⟩
      | panic v => exact ⟨k, by simp only [stepC]; rw [hk]; exact hr⟩
  | skip => exact ⟨0, hr⟩
  | exit id => exact ⟨0, hr⟩
  | ret => exact ⟨0, hr⟩
  | _ => cases hr
theorem runOpsS_fin {ops : Array Oper} : ∀ (l : List Oper) (p : Option Value) (s : St) (r : Ex × Option Value × St), runOpsS P (callW P) ops l p s = some r → ∃ k, runOpsS P (call P k) ops l p s = some r
  | [], p, s, r, hr => ⟨0, hr⟩
  | o :: l, p, s, r, hr => by
    simp only [runOpsS] at hr
    split at hr
    · rename_i hw
      split at hr
      · rename_i hrec
        cases p with
        | some v =>
          obtain ⟨k, hk⟩ := runOpsS_fin l _ _ r hr
          exact ⟨k, by simp only [runOpsS]; rw [if_pos hw, if_pos hrec]; exact hk⟩
        | none =>
          obtain ⟨k, hk⟩ := runOpsS_fin l _ _ r hr
          exact ⟨k, by simp only [runOpsS]; rw [if_pos hw, if_pos hrec]; exact hk⟩
      · rename_i hrec
        cases hd : doOp P (callW P) o s with
        | none => rw [hd] at hr; cases hr
        | some q =>
          obtain ⟨e, s'⟩ := q
          rw [hd] at hr
          obtain ⟨k, hk⟩ := doOp_fin hd
          cases e with
          | normal =>
            obtain ⟨j, hj⟩ := runOpsS_fin l p s' r hr
            refine ⟨max k j, ?_⟩
            simp only [runOpsS]
            rw [if_pos hw, if_neg hrec, doOp_mono (call_le (Nat.le_max_left k j)) hk]
            exact runOpsS_mono (call_le (Nat.le_max_right k j)) l p s' r hj
          | exit id => exact ⟨k, by simp only [runOpsS]; rw [if_pos hw, if_neg hrec, hk]; exact hr⟩
          | ret => exact ⟨k, by simp only [runOpsS]; rw [if_pos hw, if_neg hrec, hk]; exact hr⟩
          | panic v => exact ⟨k, by simp only [runOpsS]; rw [if_pos hw, if_neg hrec, hk]; exact hr⟩
    · rename_i hw
      obtain ⟨k, hk⟩ := runOpsS_fin l p _ r hr
      exact ⟨k, by simp only [runOpsS]; rw [if_neg hw]; exact hk⟩
theorem codeS_fin : ∀ (q : Code) (p : Option Value) (s : St) (r : Ex × Option Value × St), codeS P (callW P) (execW P) q p s = some r → ∃ k, codeS P (call P k) (exec P k) q p s = some r := by
  have other : ∀ (q : Code) (p : Option Value) (s : St) (r : Ex × Option Value × St), (execW P q s).map (fun (e, s) => (e, p, s)) = some r → ∃ k, (exec P k q s).map (fun (e, s) => (e, p, s)) = some r := by
    intro q p s r hr
    obtain ⟨y, hy, e⟩ := map_some hr
    obtain ⟨k, hk⟩ := execW_iff.1 hy
    exact ⟨k, by rw [hk]; exact congrArg some e⟩
  intro q
  induction q with
  | seq a b iha ihb =>
    intro p s r hr
    simp only [codeS] at hr
    cases ha : codeS P (callW P) (execW P) a p s with
    | none => rw [ha] at hr; cases hr
    | some y =>
      obtain ⟨e, p', s'⟩ := y
      rw [ha] at hr
      obtain ⟨k, hk⟩ := iha p s _ ha
      cases e with
      | normal =>
        obtain ⟨j, hj⟩ := ihb p' s' r hr
        exact ⟨max k j, by simp only [codeS]; rw [codeS_mono (call_le (Nat.le_max_left k j)) (exec_le (Nat.le_max_left k j)) _ _ _ _ hk]; exact codeS_mono (call_le (Nat.le_max_right k j)) (exec_le (Nat.le_max_right k j)) _ _ _ _ hj⟩
      | exit id => exact ⟨k, by simp only [codeS]; rw [hk]; exact hr⟩
      | ret => exact ⟨k, by simp only [codeS]; rw [hk]; exact hr⟩
      | panic v => exact ⟨k, by simp only [codeS]; rw [hk]; exact hr⟩
  | cond o a b iha ihb =>
    intro p s r hr
    simp only [codeS] at hr
    split at hr
    · rename_i t ht
      split at hr
      · rename_i htt
        obtain ⟨k, hk⟩ := iha p s r hr
        exact ⟨k, by simp only [codeS]; rw [ht]; dsimp only; rw [if_pos htt]; exact hk⟩
      · rename_i htt
        obtain ⟨k, hk⟩ := ihb p s r hr
        exact ⟨k, by simp only [codeS]; rw [ht]; dsimp only; rw [if_neg htt]; exact hk⟩
    · cases hr
  | region id ops draw =>
    intro p s r hr
    simp only [codeS] at hr
    split at hr
    · rename_i hd
      obtain ⟨k, hk⟩ := other _ p s r hr
      exact ⟨k, by simp only [codeS]; rw [if_pos hd]; exact hk⟩
    · rename_i hd
      obtain ⟨k, hk⟩ := runOpsS_fin _ _ _ _ hr
      exact ⟨k, by simp only [codeS]; rw [if_neg hd]; exact hk⟩
  | _ => intro p s r hr; simp only [codeS] at hr ⊢; exact other _ p s r hr
theorem unwind_fin {fn : Func} {s : St} : ∀ (ds : List Deferred) (p : Option Value) (H : Heap) (r : CR × Heap), unwindA P (callW P) (execW P) fn s ds p H = some r → ∃ k, unwindA P (call P k) (exec P k) fn s ds p H = some r
  | [], none, H, r, hr => ⟨0, hr⟩
  | [], some v, H, r, hr => ⟨0, hr⟩
  | d :: ds, p, H, r, hr => by
    simp only [unwindA] at hr
    split at hr
    · rename_i g captured ht
      obtain ⟨gn, hgn, h1⟩ := bind_some hr
      obtain ⟨q, hq, h2⟩ := bind_some h1
      obtain ⟨⟨e, p', s'⟩, hc, h3⟩ := bind_some h2
      obtain ⟨k, hk⟩ := codeS_fin _ _ _ _ hc
      have hend : ∃ h4 : s'.d.isEmpty = true, ∃ v, resultsA P gn s' = some v ∧ unwindA P (callW P) (execW P) fn s ds p' s'.H = some r ∧ (e = .normal ∨ e = .ret) := by
        cases e with
        | normal =>
          dsimp only at h3
          split at h3
          · rename_i hd
            obtain ⟨v, hv, h4⟩ := bind_some h3
            exact ⟨hd, v, hv, h4, .inl rfl⟩
          · cases h3
        | ret =>
          dsimp only at h3
          split at h3
          · rename_i hd
            obtain ⟨v, hv, h4⟩ := bind_some h3
            exact ⟨hd, v, hv, h4, .inr rfl⟩
          · cases h3
        | _ => cases h3
      obtain ⟨hd, v, hv, h4, he⟩ := hend
      obtain ⟨j, hj⟩ := unwind_fin ds p' s'.H r h4
      refine ⟨max k j, ?_⟩
      simp only [unwindA, ht, hgn, hq, Option.bind_eq_bind, Option.bind_some, codeS_mono (call_le (Nat.le_max_left k j)) (exec_le (Nat.le_max_left k j)) _ _ _ _ hk]
      rcases he with rfl | rfl
      · dsimp only; rw [if_pos hd, hv]; exact unwind_mono (call_le (Nat.le_max_right k j)) (exec_le (Nat.le_max_right k j)) _ _ _ _ hj
      · dsimp only; rw [if_pos hd, hv]; exact unwind_mono (call_le (Nat.le_max_right k j)) (exec_le (Nat.le_max_right k j)) _ _ _ _ hj
    · cases hr
theorem callA_fin {f : FuncId} {a : Array Value} {H : Heap} {r : CR × Heap} (hr : callA P (callW P) (execW P) f a H = some r) : ∃ k, callA P (call P k) (exec P k) f a H = some r := by
  unfold callA at hr
  obtain ⟨fn, hfn, h1⟩ := bind_some hr
  obtain ⟨q, hq, h2⟩ := bind_some h1
  obtain ⟨⟨e, s⟩, he, h3⟩ := bind_some h2
  obtain ⟨k, hk⟩ := execW_iff.1 he
  have fin : ∀ p, unwindA P (callW P) (execW P) fn s s.d p s.H = some r → ∃ j, unwindA P (call P (max k j)) (exec P (max k j)) fn s s.d p s.H = some r ∧ exec P (max k j) q (enterA fn a H) = some (e, s) := by
    intro p hp
    obtain ⟨j, hj⟩ := unwind_fin _ _ _ _ hp
    exact ⟨j, unwind_mono (call_le (Nat.le_max_right k j)) (exec_le (Nat.le_max_right k j)) _ _ _ _ hj, exec_le (Nat.le_max_left k j) _ _ _ hk⟩
  cases e with
  | normal =>
    obtain ⟨j, h4, h5⟩ := fin none h3
    exact ⟨max k j, by unfold callA; simp only [hfn, hq, Option.bind_eq_bind, Option.bind_some, h5]; exact h4⟩
  | ret =>
    obtain ⟨j, h4, h5⟩ := fin none h3
    exact ⟨max k j, by unfold callA; simp only [hfn, hq, Option.bind_eq_bind, Option.bind_some, h5]; exact h4⟩
  | panic v =>
    dsimp only at h3
    split at h3
    · rename_i hd
      obtain ⟨j, h4, h5⟩ := fin (some v) h3
      exact ⟨max k j, by unfold callA; simp only [hfn, hq, Option.bind_eq_bind, Option.bind_some, h5]; rw [if_pos hd]; exact h4⟩
    · cases h3
  | exit id => cases h3
theorem execW_eq (c : Code) (s : St) : execW P c s = stepC P (callW P) (execW P) c s := by
  cases h : stepC P (callW P) (execW P) c s with
  | some r =>
    obtain ⟨k, hk⟩ := stepC_fin h
    exact execW_iff.2 ⟨k + 1, hk⟩
  | none =>
    cases h2 : execW P c s with
    | none => rfl
    | some r =>
      obtain ⟨k, hk⟩ := execW_iff.1 h2
      cases k with
      | zero => cases hk
      | succ k =>
        have h3 : stepC P (call P k) (exec P k) c s = some r := hk
        have := stepC_mono (P := P) (c' := callW P) (x' := execW P) (fun f a H r h => callW_iff.2 ⟨k, h⟩) (fun c s r h => execW_iff.2 ⟨k, h⟩) c s r h3
        rw [h] at this; cases this
theorem callW_eq (f : FuncId) (a : Array Value) (H : Heap) : callW P f a H = callA P (callW P) (execW P) f a H := by
  cases h : callA P (callW P) (execW P) f a H with
  | some r =>
    obtain ⟨k, hk⟩ := callA_fin h
    exact callW_iff.2 ⟨k + 1, hk⟩
  | none =>
    cases h2 : callW P f a H with
    | none => rfl
    | some r =>
      obtain ⟨k, hk⟩ := callW_iff.1 h2
      cases k with
      | zero => cases hk
      | succ k =>
        have h3 : callA P (call P k) (exec P k) f a H = some r := hk
        have := callA_mono (P := P) (c' := callW P) (x' := execW P) (fun f a H r h => callW_iff.2 ⟨k, h⟩) (fun c s r h => execW_iff.2 ⟨k, h⟩) f a H r h3
        rw [h] at this; cases this
end
end Go.Am
namespace Go.Am
section
variable {P : Program}
theorem execW_skip (s : St) : execW P .skip s = some (.normal, s) := by rw [execW_eq]; rfl
theorem execW_seq (a b : Code) (s : St) : execW P (.seq a b) s = match execW P a s with | some (.normal, s') => execW P b s' | r => r := by rw [execW_eq]; rfl
theorem execW_cond (c : Operand) (a b : Code) (s : St) : execW P (.cond c a b) s = match s.ev c with | some (.bool t) => execW P (if t then a else b) s | _ => none := by rw [execW_eq]; rfl
theorem execW_block (id : Nat) (b : Code) (s : St) : execW P (.block id b) s = match execW P b s with | some (.exit id', s') => if id' = id then some (.normal, s') else some (.exit id', s') | r => r := by rw [execW_eq]; rfl
theorem execW_exit (id : Nat) (s : St) : execW P (.exit id) s = some (.exit id, s) := by rw [execW_eq]; rfl
theorem execW_ret (s : St) : execW P .ret s = some (.ret, s) := by rw [execW_eq]; rfl
theorem execW_text (id : Nat) (ops : Array Oper) (s : St) : execW P (.region id ops false) s = runOps P (callW P) ops ops.toList s := by rw [execW_eq]; rfl
theorem execW_draw (id : Nat) (ops : Array Oper) (s : St) : execW P (.region id ops true) s = regionD P (callW P) ops s := by rw [execW_eq]; rfl
theorem execW_loop (b : Code) (s : St) : execW P (.loop b) s = match execW P b s with | some (.normal, s') => execW P (.loop b) s' | r => r := by rw [execW_eq]; rfl
theorem calm_next {o : Oper} (hk : kdA o = .quiet ∨ kdA o = .read) (ev : Operand → Option Value) (H : Heap) (n : Nat) :
    opA P o ev { H with next := n } = (opA P o ev H).map fun r => (r.1, { H with next := n }) := by
  cases h : opA P o ev H with
  | some r =>
    obtain ⟨r, H1⟩ := r
    rcases hk with hk | hk
    · exact (quiet_indep hk h).2 _
    · obtain ⟨rfl, v, rfl⟩ := read_same hk h
      obtain ⟨dst, op, ty, pos, after, guard⟩ := o
      cases op <;> first | (simp [kdA] at hk; done) | skip
      case load t x => 
        unfold opA at h ⊢
        simp only [isAlloc, Bool.false_eq_true, if_false] at h ⊢
        obtain ⟨u, hu, h1⟩ := bind_some h
        obtain ⟨q, hq, h2⟩ := bind_some h1
        cases h2
        have hq' : loadA P { H1 with next := n } t u = some v := hq
        simp [hu, hq']
      case slice t x lo hi mx =>
        unfold opA at h ⊢
        simp only [isAlloc, Bool.false_eq_true, if_false] at h ⊢
        obtain ⟨u, hu, h1⟩ := bind_some h
        obtain ⟨vl, hvl, h2⟩ := bind_some h1
        obtain ⟨vh, hvh, h3⟩ := bind_some h2
        obtain ⟨vm, hvm, h4⟩ := bind_some h3
        obtain ⟨q, hq, h5⟩ := bind_some h4
        cases h5
        have hq' : sliceA P { H1 with next := n } t u vl vh vm = some v := hq
        simp only [hu, hvl, hvh, hvm, Option.bind_eq_bind, Option.bind_some, hq', Option.map_some]
      case call c =>
        obtain ⟨callee, args, ts⟩ := c
        cases callee with
        | builtin b => cases b <;> simp [kdA] at hk
        | _ => simp [kdA] at hk
  | none =>
    cases h2 : opA P o ev { H with next := n } with
    | none => rfl
    | some r =>
      obtain ⟨r, H1⟩ := r
      rcases hk with hk | hk
      · have := (quiet_indep hk h2).2 H
        rw [h] at this; cases this
      · obtain ⟨rfl, v, rfl⟩ := read_same hk h2
        exfalso
        obtain ⟨dst, op, ty, pos, after, guard⟩ := o
        cases op <;> first | (simp [kdA] at hk; done) | skip
        case load t x =>
          unfold opA at h h2
          simp only [isAlloc, Bool.false_eq_true, if_false] at h h2
          obtain ⟨u, hu, h1⟩ := bind_some h2
          obtain ⟨q, hq, h3⟩ := bind_some h1
          have hq' : loadA P H t u = some q := hq
          simp [hu, hq'] at h
        case slice t x lo hi mx =>
          unfold opA at h h2
          simp only [isAlloc, Bool.false_eq_true, if_false] at h h2
          obtain ⟨u, hu, h1⟩ := bind_some h2
          obtain ⟨vl, hvl, h3⟩ := bind_some h1
          obtain ⟨vh, hvh, h4⟩ := bind_some h3
          obtain ⟨vm, hvm, h5⟩ := bind_some h4
          obtain ⟨q, hq, h6⟩ := bind_some h5
          have hq' : sliceA P H t u vl vh vm = some q := hq
          simp only [hu, hvl, hvh, hvm, Option.bind_eq_bind, Option.bind_some, hq'] at h
          cases h
        case call c =>
          obtain ⟨callee, args, ts⟩ := c
          cases callee with
          | builtin b => cases b <;> simp [kdA] at hk
          | _ => simp [kdA] at hk
theorem calm_val {o : Oper} (hk : kdA o = .quiet ∨ kdA o = .read) {ev : Operand → Option Value} {H H1 : Heap} {r : R} (h : opA P o ev H = some (r, H1)) : H1 = H := by
  rcases hk with hk | hk
  · exact (quiet_indep hk h).1
  · exact (read_same hk h).1
theorem runD_calm {cl : Cl} {ops : Array Oper} {b : Array Nat} {r0 : Nat} (n : Nat) : ∀ (l : List Oper) (i : Nat) (s : St) (rd : List (Nat × Oper × St × Value)), (∀ o ∈ l, kdA o = .quiet ∨ kdA o = .read) → ∀ e s', runOps P cl ops l s = some (e, s') →
    (∀ o ∈ l, ∀ v, ∀ s2 : St, ∀ H2, opA P o s2.ev s2.H = some (v, H2) → ∃ u, v = .val u) →
    e = .normal ∧ s'.H = s.H ∧ ∃ rd', runD P cl ops b r0 i l { s := { s with H := { s.H with next := n } }, A := [], hist := [], cs := [], rd := rd } = some { s := { s' with H := { s.H with next := n } }, A := [], hist := [], cs := [], rd := rd' }
  | [], i, s, rd, _, e, s', h, _ => by
    simp only [runOps, Option.some.injEq, Prod.mk.injEq] at h
    obtain ⟨rfl, rfl⟩ := h
    exact ⟨rfl, rfl, rd, rfl⟩
  | o :: l, i, s, rd, hk, e, s', h, hv => by
    have hko := hk o (by simp)
    have hkl : ∀ o ∈ l, kdA o = .quiet ∨ kdA o = .read := fun o ho => hk o (by simp [ho])
    have hvl : ∀ o ∈ l, ∀ v, ∀ s2 : St, ∀ H2, opA P o s2.ev s2.H = some (v, H2) → ∃ u, v = .val u := fun o ho => hv o (by simp [ho])
    have hw2 : ∀ (s : St) (H : Heap), wantedA o ops { s with H := H } = wantedA o ops s := fun s H => rfl
    simp only [runOps] at h
    simp only [runD]
    split at h
    · rename_i hw
      cases hd : doOp P cl o s with
      | none => rw [hd] at h; cases h
      | some q =>
        obtain ⟨e1, s1⟩ := q
        rw [hd] at h
        unfold doOp at hd
        obtain ⟨⟨r, H1⟩, hr, h1⟩ := bind_some hd
        obtain ⟨u, rfl⟩ := hv o (by simp) r s H1 hr
        have hH := calm_val hko hr
        subst hH
        cases h1
        have hnx := calm_next (P := P) hko s.ev s.H n
        rw [hr] at hnx
        have hst : stepD P cl ops b r0 i o { s := { s with H := { s.H with next := n } }, A := [], hist := [], cs := [], rd := rd } =
            some { s := ({ s with H := { s.H with next := n } } : St).put o.dst u, A := [], hist := [], cs := [], rd := if kdA o = .read then (i, o, { s with H := { s.H with next := n } }, u) :: rd else rd } := by
          unfold stepD
          dsimp only
          rw [if_pos (by rw [hw2]; exact hw)]
          rcases hko with hq | hq
          · rw [hq]
            have : opA P o ({ s with H := { s.H with next := n } } : St).ev { s.H with next := n } = some (.val u, { s.H with next := n }) := hnx
            simp only [this, Option.bind_eq_bind, Option.bind_some]
            simp
          · rw [hq]
            have : readsA P r0 b [] i o ({ s with H := { s.H with next := n } } : St) { s.H with next := n } = some u := by
              unfold readsA
              have : opA P o ({ s with H := { s.H with next := n } } : St).ev { s.H with next := n } = some (.val u, { s.H with next := n }) := hnx
              simp only [List.filter_nil, layA, this]
            simp only [this, Option.bind_eq_bind, Option.bind_some, backA, if_true]
        rw [hst]
        have ih := runD_calm (cl := cl) (b := b) (r0 := r0) n l (i + 1) (s.put o.dst u) (if kdA o = .read then (i, o, { s with H := { s.H with next := n } }, u) :: rd else rd) hkl e s' h hvl
        obtain ⟨i1, i2, rd', i3⟩ := ih
        refine ⟨i1, by rw [i2]; simp, rd', ?_⟩
        have e1 : ({ s with H := { s.H with next := n } } : St).put o.dst u = { (s.put o.dst u) with H := { (s.put o.dst u).H with next := n } } := by
          cases o.dst with
          | none => rfl
          | some d => simp only [St.put]; split <;> rfl
        rw [e1]
        simp only [put_H] at i3 ⊢
        exact i3
    · rename_i hw
      have hst : stepD P cl ops b r0 i o { s := { s with H := { s.H with next := n } }, A := [], hist := [], cs := [], rd := rd } =
          some { s := ({ s with H := { s.H with next := n } } : St).put o.dst undef, A := [], hist := [], cs := [], rd := rd } := by
        unfold stepD
        dsimp only
        rw [if_neg (by rw [hw2]; exact hw)]
      rw [hst]
      obtain ⟨i1, i2, rd', i3⟩ := runD_calm (cl := cl) (b := b) (r0 := r0) n l (i + 1) (s.put o.dst undef) rd hkl e s' h hvl
      refine ⟨i1, by rw [i2]; simp, rd', ?_⟩
      have e1 : ({ s with H := { s.H with next := n } } : St).put o.dst undef = { (s.put o.dst undef) with H := { (s.put o.dst undef).H with next := n } } := by
        cases o.dst with
        | none => rfl
        | some d => simp only [St.put]; split <;> rfl
      rw [e1]
      simp only [put_H] at i3 ⊢
      exact i3
theorem calm_isval {o : Oper} (hk : kdA o = .quiet ∨ kdA o = .read) {ev : Operand → Option Value} {H H1 : Heap} {r : R} (h : opA P o ev H = some (r, H1)) : ∃ u, r = .val u := by
  rcases hk with hk | hk
  · obtain ⟨dst, op, ty, pos, after, guard⟩ := o
    cases op <;> first | (simp [kdA] at hk; done) | skip
    all_goals (unfold opA at h; simp only [isAlloc, Bool.false_eq_true, if_false] at h)
    case move x => obtain ⟨v, hv, h1⟩ := bind_some h; cases h1; exact ⟨_, rfl⟩
    case assign x => obtain ⟨v, hv, h1⟩ := bind_some h; cases h1; exact ⟨_, rfl⟩
    case pick c x y =>
      obtain ⟨vc, hvc, h1⟩ := bind_some h
      cases vc with
      | bool b =>
        cases b with
        | true =>
          have h2 : (do some (R.val (← ev x), H)) = some (r, H1) := h1
          obtain ⟨v, hv, h3⟩ := bind_some h2
          cases h3; exact ⟨_, rfl⟩
        | false =>
          have h2 : (do some (R.val (← ev y), H)) = some (r, H1) := h1
          obtain ⟨v, hv, h3⟩ := bind_some h2
          cases h3; exact ⟨_, rfl⟩
      | _ => cases h1
    case build t ps => obtain ⟨v, hv, h1⟩ := bind_some h; obtain ⟨u, hu, h2⟩ := bind_some h1; cases h2; exact ⟨_, rfl⟩
    case nilCheck x =>
      obtain ⟨v, hv, h1⟩ := bind_some h
      cases v with
      | pointer q => cases q with
        | none => cases h1
        | some q => cases h1; exact ⟨_, rfl⟩
      | func f a c => cases f with
        | func f => cases h1; exact ⟨_, rfl⟩
        | _ => cases h1
      | iface t v => cases h1; exact ⟨_, rfl⟩
      | _ => cases h1
    case binOp op t x y u =>
      obtain ⟨vx, hvx, h1⟩ := bind_some h
      obtain ⟨vy, hvy, h2⟩ := bind_some h1
      split at h2
      case isFalse => cases h2
      obtain ⟨q, hq, h3⟩ := bind_some h2
      cases h3; exact ⟨_, rfl⟩
    case unOp op t x => obtain ⟨v, hv, h1⟩ := bind_some h; obtain ⟨u, hu, h2⟩ := bind_some h1; cases h2; exact ⟨_, rfl⟩
    case convert s t x => obtain ⟨v, hv, h1⟩ := bind_some h; obtain ⟨u, hu, h2⟩ := bind_some h1; cases h2; exact ⟨_, rfl⟩
    case makeInterface t x => obtain ⟨v, hv, h1⟩ := bind_some h; obtain ⟨u, hu, h2⟩ := bind_some h1; cases h2; exact ⟨_, rfl⟩
    case makeFunc fn x y => obtain ⟨v, hv, h1⟩ := bind_some h; obtain ⟨u, hu, h2⟩ := bind_some h1; cases h2; exact ⟨_, rfl⟩
    case fieldAddr s x f => obtain ⟨v, hv, h1⟩ := bind_some h; obtain ⟨u, hu, h2⟩ := bind_some h1; cases h2; exact ⟨_, rfl⟩
    case field s x f => obtain ⟨v, hv, h1⟩ := bind_some h; obtain ⟨u, hu, h2⟩ := bind_some h1; cases h2; exact ⟨_, rfl⟩
    case indexAddr t x y => obtain ⟨v, hv, h1⟩ := bind_some h; obtain ⟨i, hi, h2⟩ := bind_some h1; obtain ⟨u, hu, h3⟩ := bind_some h2; cases h3; exact ⟨_, rfl⟩
    case index t x y => obtain ⟨v, hv, h1⟩ := bind_some h; obtain ⟨i, hi, h2⟩ := bind_some h1; obtain ⟨u, hu, h3⟩ := bind_some h2; cases h3; exact ⟨_, rfl⟩
    case typeAssert x a b c => obtain ⟨v, hv, h1⟩ := bind_some h; obtain ⟨u, hu, h2⟩ := bind_some h1; cases h2; exact ⟨_, rfl⟩
    case extract x i => obtain ⟨v, hv, h1⟩ := bind_some h; obtain ⟨u, hu, h2⟩ := bind_some h1; cases h2; exact ⟨_, rfl⟩
    case call c =>
      obtain ⟨callee, args, ts⟩ := c
      cases callee with
      | builtin b => obtain ⟨vs, hvs, h1⟩ := bind_some h; obtain ⟨q, hq, h2⟩ := bind_some h1; cases h2; exact ⟨_, rfl⟩
      | _ => simp [kdA] at hk
  · obtain ⟨_, v, rfl⟩ := read_same hk h
    exact ⟨v, rfl⟩
theorem regionD_calm {cl : Cl} {ops : Array Oper} {s : St} {e : Ex} {s' : St} (hok : okD ops = true) (hc : calmD ops = true) (h : runOps P cl ops ops.toList s = some (e, s')) : regionD P cl ops s = some (e, s') := by
  have hk : ∀ o ∈ ops.toList, kdA o = .quiet ∨ kdA o = .read := by
    intro o ho
    have := List.all_eq_true.1 hc o ho
    simpa using this
  obtain ⟨rfl, hH, rd', h2⟩ := runD_calm (P := P) (cl := cl) (ops := ops) (b := Region.before ops) (r0 := s.H.next) (s.H.next + ops.size + 1) ops.toList 0 s [] hk e s' h
    (fun o ho v s2 H2 hv => calm_isval (hk o ho) hv)
  unfold regionD
  rw [if_pos hok]
  dsimp only
  rw [h2]
  simp only [Option.bind_eq_bind, Option.bind_some, hc, if_true]
  rw [← hH]
end
end Go.Am
namespace Go.Am
section
variable {P : Program} {cl : Cl} {ops : Array Oper} {rest : List Oper} {d : Option Tmp} {ty : TypeId} {ps : String} {af : Array Edge} {s : St}
theorem runOps_nil : runOps P cl ops [] s = some (.normal, s) := rfl
theorem yieldedA_eq {j : Nat} : yieldedA ops s j = match (ops[j]?).bind (·.dst) with | some t => (match s.f.get t with | some (.bool b) => some b | _ => none) | none => none := rfl
theorem runOps_of {o : Oper} (hg : o.guard = none) : runOps P cl ops (o :: rest) s = match doOp P cl o s with | some (.normal, s') => runOps P cl ops rest s' | r => r := by
  simp only [runOps, wantedA, hg, if_true]
  rfl
theorem runOps_val {op : Op} {r : Option Value} (h : opA P { dst := d, op := op, type := ty, pos := ps, after := af, guard := none } s.ev s.H = r.map fun v => (.val v, s.H)) :
    runOps P cl ops ({ dst := d, op := op, type := ty, pos := ps, after := af, guard := none } :: rest) s = r.bind fun v => runOps P cl ops rest (s.put d v) := by
  rw [runOps_of rfl]
  unfold doOp
  rw [h]
  cases r with
  | none => rfl
  | some v =>
    cases s; rfl
theorem runOps_move {x : Operand} : runOps P cl ops ({ dst := d, op := .move x, type := ty, pos := ps, after := af, guard := none } :: rest) s = (s.ev x).bind fun v => runOps P cl ops rest (s.put d v) :=
  runOps_val (by simp only [opA, isAlloc, Bool.false_eq_true, if_false]; cases s.ev x <;> rfl)
theorem runOps_assign {x : Operand} : runOps P cl ops ({ dst := d, op := .assign x, type := ty, pos := ps, after := af, guard := none } :: rest) s = (s.ev x).bind fun v => runOps P cl ops rest (s.put d v) :=
  runOps_val (by simp only [opA, isAlloc, Bool.false_eq_true, if_false]; cases s.ev x <;> rfl)
def pickA (ev : Operand → Option Value) (x y : Operand) : Value → Option Value
  | .bool c => ev (if c then x else y)
  | _ => none
theorem runOps_pick {c x y : Operand} : runOps P cl ops ({ dst := d, op := .pick c x y, type := ty, pos := ps, after := af, guard := none } :: rest) s = (s.ev c).bind fun v => (pickA s.ev x y v).bind fun v => runOps P cl ops rest (s.put d v) := by
  rw [runOps_val (r := (s.ev c).bind (pickA s.ev x y))]
  · cases s.ev c <;> rfl
  · simp only [opA, isAlloc, Bool.false_eq_true, if_false]
    cases s.ev c with
    | none => rfl
    | some v =>
      cases v <;> try rfl
      rename_i b
      cases b
      · show (do some (R.val (← s.ev y), s.H)) = _
        simp only [Option.bind_some, pickA, Bool.false_eq_true, if_false]
        cases s.ev y <;> rfl
      · show (do some (R.val (← s.ev x), s.H)) = _
        simp only [Option.bind_some, pickA, if_true]
        cases s.ev x <;> rfl
def nilChkA : Value → Option Value
  | .pointer (some a) => some (.pointer (some a))
  | .func (.func f) first captured => some (.func (.func f) first captured)
  | .iface t v => some (.iface t v)
  | _ => none
theorem runOps_nilCheck {x : Operand} : runOps P cl ops ({ dst := d, op := .nilCheck x, type := ty, pos := ps, after := af, guard := none } :: rest) s = (s.ev x).bind fun v => (nilChkA v).bind fun v => runOps P cl ops rest (s.put d v) := by
  rw [runOps_val (r := (s.ev x).bind nilChkA)]
  · cases s.ev x <;> rfl
  · simp only [opA, isAlloc, Bool.false_eq_true, if_false]
    cases s.ev x with
    | none => rfl
    | some v =>
      cases v <;> try rfl
      · rename_i q; cases q <;> rfl
      · rename_i q _ _; cases q <;> rfl
theorem runOps_build {t : TypeId} {parts : Array (Nat × Operand)} : runOps P cl ops ({ dst := d, op := .build t parts, type := ty, pos := ps, after := af, guard := none } :: rest) s = (parts.toList.mapM fun (p : Nat × Operand) => (s.ev p.2).map (p.1, ·)).bind fun l => (buildA P t l).bind fun v => runOps P cl ops rest (s.put d v) := by
  rw [runOps_val (r := (parts.toList.mapM fun (p : Nat × Operand) => (s.ev p.2).map (p.1, ·)).bind fun l => buildA P t l)]
  · cases (parts.toList.mapM fun (p : Nat × Operand) => (s.ev p.2).map (p.1, ·)) <;> rfl
  · simp only [opA, isAlloc, Bool.false_eq_true, if_false]
    show (do let l ← (parts.toList.mapM fun (p : Nat × Operand) => (s.ev p.2).map (p.1, ·)); let u ← buildA P t l; some (R.val u, s.H)) = _
    cases (parts.toList.mapM fun (p : Nat × Operand) => (s.ev p.2).map (p.1, ·)) with
    | none => rfl
    | some l =>
      show (do let u ← buildA P t l; some (R.val u, s.H)) = (buildA P t l).map _
      cases buildA P t l <;> rfl
theorem runOps_load {t : TypeId} {x : Operand} : runOps P cl ops ({ dst := d, op := .load t x, type := ty, pos := ps, after := af, guard := none } :: rest) s = (s.ev x).bind fun v => (loadA P s.H t v).bind fun v => runOps P cl ops rest (s.put d v) := by
  rw [runOps_val (r := (s.ev x).bind (loadA P s.H t))]
  · cases s.ev x <;> rfl
  · simp only [opA, isAlloc, Bool.false_eq_true, if_false]
    cases s.ev x with
    | none => rfl
    | some v =>
      show (do let u ← loadA P s.H t v; some (R.val u, s.H)) = (loadA P s.H t v).map _
      cases loadA P s.H t v <;> rfl
theorem runOps_bin {op : BinOp} {t u : TypeId} {x y : Operand} : runOps P cl ops ({ dst := d, op := .binOp op t x y u, type := ty, pos := ps, after := af, guard := none } :: rest) s =
    (s.ev x).bind fun a => (s.ev y).bind fun b => if eqGuardA op x y a b then (binA P op t a b).bind fun v => runOps P cl ops rest (s.put d v) else none := by
  rw [runOps_val (r := (s.ev x).bind fun a => (s.ev y).bind fun b => if eqGuardA op x y a b then binA P op t a b else none)]
  · cases s.ev x with
    | none => rfl
    | some a => cases s.ev y with
      | none => rfl
      | some b => simp only [Option.bind_some]; split <;> rfl
  · simp only [opA, isAlloc, Bool.false_eq_true, if_false]
    cases s.ev x with
    | none => rfl
    | some a => cases s.ev y with
      | none => rfl
      | some b =>
        show (if eqGuardA op x y a b then (do let u ← binA P op t a b; some (R.val u, s.H)) else none) = (if eqGuardA op x y a b then binA P op t a b else none).map _
        split
        · cases binA P op t a b <;> rfl
        · rfl
theorem runOps_un {op : UnOp} {t : TypeId} {x : Operand} : runOps P cl ops ({ dst := d, op := .unOp op t x, type := ty, pos := ps, after := af, guard := none } :: rest) s = (s.ev x).bind fun v => (unA op v).bind fun v => runOps P cl ops rest (s.put d v) := by
  rw [runOps_val (r := (s.ev x).bind (unA op))]
  · cases s.ev x <;> rfl
  · simp only [opA, isAlloc, Bool.false_eq_true, if_false]
    cases s.ev x with
    | none => rfl
    | some v =>
      show (do let u ← unA op v; some (R.val u, s.H)) = (unA op v).map _
      cases unA op v <;> rfl
theorem runOps_convert {a b : TypeId} {x : Operand} : runOps P cl ops ({ dst := d, op := .convert a b x, type := ty, pos := ps, after := af, guard := none } :: rest) s = (s.ev x).bind fun v => (convertA P a b v).bind fun v => runOps P cl ops rest (s.put d v) := by
  rw [runOps_val (r := (s.ev x).bind (convertA P a b))]
  · cases s.ev x <;> rfl
  · simp only [opA, isAlloc, Bool.false_eq_true, if_false]
    cases s.ev x with
    | none => rfl
    | some v =>
      show (do let u ← convertA P a b v; some (R.val u, s.H)) = (convertA P a b v).map _
      cases convertA P a b v <;> rfl
theorem runOps_iface {t : TypeId} {x : Operand} : runOps P cl ops ({ dst := d, op := .makeInterface t x, type := ty, pos := ps, after := af, guard := none } :: rest) s = (s.ev x).bind fun v => (makeInterfaceA P t v).bind fun v => runOps P cl ops rest (s.put d v) := by
  rw [runOps_val (r := (s.ev x).bind (makeInterfaceA P t))]
  · cases s.ev x <;> rfl
  · simp only [opA, isAlloc, Bool.false_eq_true, if_false]
    cases s.ev x with
    | none => rfl
    | some v =>
      show (do let u ← makeInterfaceA P t v; some (R.val u, s.H)) = (makeInterfaceA P t v).map _
      cases makeInterfaceA P t v <;> rfl
theorem runOps_fieldAddr {t : TypeId} {x : Operand} {i : Nat} : runOps P cl ops ({ dst := d, op := .fieldAddr t x i, type := ty, pos := ps, after := af, guard := none } :: rest) s = (s.ev x).bind fun v => (fieldAddrA P t v i).bind fun v => runOps P cl ops rest (s.put d v) := by
  rw [runOps_val (r := (s.ev x).bind (fieldAddrA P t · i))]
  · cases s.ev x <;> rfl
  · simp only [opA, isAlloc, Bool.false_eq_true, if_false]
    cases s.ev x with
    | none => rfl
    | some v =>
      show (do let u ← fieldAddrA P t v i; some (R.val u, s.H)) = (fieldAddrA P t v i).map _
      cases fieldAddrA P t v i <;> rfl
theorem runOps_field {t : TypeId} {x : Operand} {i : Nat} : runOps P cl ops ({ dst := d, op := .field t x i, type := ty, pos := ps, after := af, guard := none } :: rest) s = (s.ev x).bind fun v => (fieldA P t v i).bind fun v => runOps P cl ops rest (s.put d v) := by
  rw [runOps_val (r := (s.ev x).bind (fieldA P t · i))]
  · cases s.ev x <;> rfl
  · simp only [opA, isAlloc, Bool.false_eq_true, if_false]
    cases s.ev x with
    | none => rfl
    | some v =>
      show (do let u ← fieldA P t v i; some (R.val u, s.H)) = (fieldA P t v i).map _
      cases fieldA P t v i <;> rfl
theorem runOps_extract {x : Operand} {i : Nat} : runOps P cl ops ({ dst := d, op := .extract x i, type := ty, pos := ps, after := af, guard := none } :: rest) s = (s.ev x).bind fun v => (extractA v i).bind fun v => runOps P cl ops rest (s.put d v) := by
  rw [runOps_val (r := (s.ev x).bind (extractA · i))]
  · cases s.ev x <;> rfl
  · simp only [opA, isAlloc, Bool.false_eq_true, if_false]
    cases s.ev x with
    | none => rfl
    | some v =>
      show (do let u ← extractA v i; some (R.val u, s.H)) = (extractA v i).map _
      cases extractA v i <;> rfl
theorem runOps_typeAssert {x : Operand} {a b : TypeId} {k : Bool} : runOps P cl ops ({ dst := d, op := .typeAssert x a b k, type := ty, pos := ps, after := af, guard := none } :: rest) s = (s.ev x).bind fun v => (typeAssertA P v b k).bind fun v => runOps P cl ops rest (s.put d v) := by
  rw [runOps_val (r := (s.ev x).bind (typeAssertA P · b k))]
  · cases s.ev x <;> rfl
  · simp only [opA, isAlloc, Bool.false_eq_true, if_false]
    cases s.ev x with
    | none => rfl
    | some v =>
      show (do let u ← typeAssertA P v b k; some (R.val u, s.H)) = (typeAssertA P v b k).map _
      cases typeAssertA P v b k <;> rfl
theorem runOps_indexAddr {t : TypeId} {x y : Operand} : runOps P cl ops ({ dst := d, op := .indexAddr t x y, type := ty, pos := ps, after := af, guard := none } :: rest) s = (s.ev x).bind fun v => (s.ev y).bind fun i => (indexAddrA P t v i).bind fun v => runOps P cl ops rest (s.put d v) := by
  rw [runOps_val (r := (s.ev x).bind fun v => (s.ev y).bind fun i => indexAddrA P t v i)]
  · cases s.ev x with
    | none => rfl
    | some v => cases s.ev y <;> rfl
  · simp only [opA, isAlloc, Bool.false_eq_true, if_false]
    cases s.ev x with
    | none => rfl
    | some v =>
      cases s.ev y with
      | none => rfl
      | some i =>
        show (do let u ← indexAddrA P t v i; some (R.val u, s.H)) = (indexAddrA P t v i).map _
        cases indexAddrA P t v i <;> rfl
theorem runOps_index {t : TypeId} {x y : Operand} : runOps P cl ops ({ dst := d, op := .index t x y, type := ty, pos := ps, after := af, guard := none } :: rest) s = (s.ev x).bind fun v => (s.ev y).bind fun i => (indexA P t v i).bind fun v => runOps P cl ops rest (s.put d v) := by
  rw [runOps_val (r := (s.ev x).bind fun v => (s.ev y).bind fun i => indexA P t v i)]
  · cases s.ev x with
    | none => rfl
    | some v => cases s.ev y <;> rfl
  · simp only [opA, isAlloc, Bool.false_eq_true, if_false]
    cases s.ev x with
    | none => rfl
    | some v =>
      cases s.ev y with
      | none => rfl
      | some i =>
        show (do let u ← indexA P t v i; some (R.val u, s.H)) = (indexA P t v i).map _
        cases indexA P t v i <;> rfl
theorem runOps_makeFunc {g : Fn} {a b : Array Operand} : runOps P cl ops ({ dst := d, op := .makeFunc g a b, type := ty, pos := ps, after := af, guard := none } :: rest) s = (a.toList.mapM s.ev).bind fun x => (b.toList.mapM s.ev).bind fun y => runOps P cl ops rest (s.put d (.func g x.toArray y.toArray)) := by
  rw [runOps_val (r := (a.toList.mapM s.ev).bind fun x => (b.toList.mapM s.ev).bind fun y => some (.func g x.toArray y.toArray))]
  · cases a.toList.mapM s.ev with
    | none => rfl
    | some v => cases b.toList.mapM s.ev <;> rfl
  · simp only [opA, isAlloc, Bool.false_eq_true, if_false]
    show (do let x ← a.toList.mapM s.ev; let y ← b.toList.mapM s.ev; some (R.val (.func g x.toArray y.toArray), s.H)) = _
    cases a.toList.mapM s.ev with
    | none => rfl
    | some v => cases b.toList.mapM s.ev <;> rfl
theorem runOps_slice {t : TypeId} {x : Operand} {lo hi mx : Option Operand} : runOps P cl ops ({ dst := d, op := .slice t x lo hi mx, type := ty, pos := ps, after := af, guard := none } :: rest) s = (s.ev x).bind fun v => (lo.mapM s.ev).bind fun l => (hi.mapM s.ev).bind fun h => (mx.mapM s.ev).bind fun m => (sliceA P s.H t v l h m).bind fun v => runOps P cl ops rest (s.put d v) := by
  rw [runOps_val (r := (s.ev x).bind fun v => (lo.mapM s.ev).bind fun l => (hi.mapM s.ev).bind fun h => (mx.mapM s.ev).bind fun m => sliceA P s.H t v l h m)]
  · cases s.ev x with
    | none => rfl
    | some v => cases lo.mapM s.ev with
      | none => rfl
      | some l => cases hi.mapM s.ev with
        | none => rfl
        | some h => cases mx.mapM s.ev <;> rfl
  · simp only [opA, isAlloc, Bool.false_eq_true, if_false]
    show (do let v ← s.ev x; let l ← lo.mapM s.ev; let h ← hi.mapM s.ev; let m ← mx.mapM s.ev; let u ← sliceA P s.H t v l h m; some (R.val u, s.H)) = _
    cases s.ev x with
    | none => rfl
    | some v => cases lo.mapM s.ev with
      | none => rfl
      | some l => cases hi.mapM s.ev with
        | none => rfl
        | some h => cases mx.mapM s.ev with
          | none => rfl
          | some m =>
            show (do let u ← sliceA P s.H t v l h m; some (R.val u, s.H)) = (sliceA P s.H t v l h m).map _
            cases sliceA P s.H t v l h m <;> rfl
def setH (s : St) (H : Heap) : St := { s with H := H }
@[simp] theorem setH_mk (n : Nat) (f : Tr Value) (d : List Deferred) (H H1 : Heap) : setH ⟨n, f, d, H⟩ H1 = ⟨n, f, d, H1⟩ := rfl
theorem runOps_vh {op : Op} {r : Option (Value × Heap)} (h : opA P { dst := d, op := op, type := ty, pos := ps, after := af, guard := none } s.ev s.H = r.map fun v => (.val v.1, v.2)) :
    runOps P cl ops ({ dst := d, op := op, type := ty, pos := ps, after := af, guard := none } :: rest) s = r.bind fun v => runOps P cl ops rest ((setH s v.2).put d v.1) := by
  rw [runOps_of rfl]
  unfold doOp
  rw [h]
  cases r with
  | none => rfl
  | some v => rfl
theorem runOps_store {t : TypeId} {x y : Operand} : runOps P cl ops ({ dst := d, op := .store t x y, type := ty, pos := ps, after := af, guard := none } :: rest) s =
    (s.ev x).bind fun a => (s.ev y).bind fun v => (storeA P s.H t a v).bind fun H => runOps P cl ops rest ((setH s H).put d undef) := by
  rw [runOps_vh (r := (s.ev x).bind fun a => (s.ev y).bind fun v => (storeA P s.H t a v).map fun H => (undef, H))]
  · cases s.ev x with
    | none => rfl
    | some v => cases s.ev y with
      | none => rfl
      | some i =>
        show ((storeA P s.H t v i).map fun H => (undef, H)).bind _ = (storeA P s.H t v i).bind _
        cases storeA P s.H t v i <;> rfl
  · simp only [opA, isAlloc, Bool.false_eq_true, if_false]
    cases s.ev x with
    | none => rfl
    | some v =>
      cases s.ev y with
      | none => rfl
      | some i =>
        show (do let u ← storeA P s.H t v i; some (R.val undef, u)) = ((storeA P s.H t v i).map fun H => (undef, H)).map _
        cases storeA P s.H t v i <;> rfl
theorem runOps_builtin {b : Builtin} {args : Array Operand} {ts : Array TypeId} : runOps P cl ops ({ dst := d, op := .call { callee := .builtin b, args := args, argTypes := ts }, type := ty, pos := ps, after := af, guard := none } :: rest) s =
    (args.toList.mapM s.ev).bind fun l => (builtinA P b ts l s.H).bind fun r => runOps P cl ops rest ((setH s r.2).put d r.1) := by
  rw [runOps_vh (r := (args.toList.mapM s.ev).bind fun l => builtinA P b ts l s.H)]
  · cases args.toList.mapM s.ev <;> rfl
  · simp only [opA, isAlloc, Bool.false_eq_true, if_false]
    show (do let l ← args.toList.mapM s.ev; let r ← builtinA P b ts l s.H; some (R.val r.1, r.2)) = _
    cases args.toList.mapM s.ev with
    | none => rfl
    | some l =>
      show (do let r ← builtinA P b ts l s.H; some (R.val r.1, r.2)) = (builtinA P b ts l s.H).map _
      cases builtinA P b ts l s.H <;> rfl
theorem runOps_allocs {op : Op} (h : isAlloc op = true) : runOps P cl ops ({ dst := d, op := op, type := ty, pos := ps, after := af, guard := none } :: rest) s =
    (allocA P op s.ev).bind fun r => runOps P cl ops rest ((setH s (s.H.alloc r.2)).put d (r.1 s.H.next)) := by
  rw [runOps_vh (r := (allocA P op s.ev).map fun r => (r.1 s.H.next, s.H.alloc r.2))]
  · cases allocA P op s.ev <;> rfl
  · unfold opA
    rw [if_pos h]
    cases allocA P op s.ev <;> rfl
theorem runOps_alloc {t : TypeId} : runOps P cl ops ({ dst := d, op := .alloc t, type := ty, pos := ps, after := af, guard := none } :: rest) s =
    (zeroA P t).bind fun z => runOps P cl ops rest ((setH s (s.H.alloc ⟨t, 0, false, z.cells.toList⟩)).put d (.pointer (some ⟨s.H.next, 0, none⟩))) := by
  rw [runOps_allocs rfl]; simp only [allocA]; cases zeroA P t <;> rfl
theorem runOps_box {t : TypeId} {x : Operand} : runOps P cl ops ({ dst := d, op := .box t x, type := ty, pos := ps, after := af, guard := none } :: rest) s =
    (s.ev x).bind fun z => runOps P cl ops rest ((setH s (s.H.alloc ⟨t, 0, false, z.cells.toList⟩)).put d (.pointer (some ⟨s.H.next, 0, none⟩))) := by
  rw [runOps_allocs rfl]; simp only [allocA]; cases s.ev x <;> rfl
theorem runOps_buildSlice {t : TypeId} {n : Nat} {parts : Array (Nat × Operand)} : runOps P cl ops ({ dst := d, op := .buildSlice t n parts, type := ty, pos := ps, after := af, guard := none } :: rest) s =
    (parts.toList.mapM fun (p : Nat × Operand) => (s.ev p.2).map (p.1, ·)).bind fun l => (buildSliceA P t n l).bind fun r => runOps P cl ops rest ((setH s (s.H.alloc r.2)).put d (r.1 s.H.next)) := by
  rw [runOps_allocs rfl]; simp only [allocA]
  show ((parts.toList.mapM fun (p : Nat × Operand) => (s.ev p.2).map (p.1, ·)).bind fun l => buildSliceA P t n l).bind _ = _
  cases (parts.toList.mapM fun (p : Nat × Operand) => (s.ev p.2).map (p.1, ·)) <;> rfl
theorem runOps_makeSlice {t : TypeId} {l c : Operand} : runOps P cl ops ({ dst := d, op := .makeSlice t l c, type := ty, pos := ps, after := af, guard := none } :: rest) s =
    (s.ev l).bind fun x => (s.ev c).bind fun y => (makeSliceA P t x y).bind fun r => runOps P cl ops rest ((setH s (s.H.alloc r.2)).put d (r.1 s.H.next)) := by
  rw [runOps_allocs rfl]; simp only [allocA]
  show ((s.ev l).bind fun x => (s.ev c).bind fun y => makeSliceA P t x y).bind _ = _
  cases s.ev l with
  | none => rfl
  | some x => cases s.ev c <;> rfl
def backR (cr : CR) (k : Value → Option (Ex × St)) (s : St) : Option (Ex × St) :=
  match cr with
  | .ret v => k v
  | .pan v => some (.panic v, s)
@[simp] theorem backR_ret (v : Value) (k : Value → Option (Ex × St)) (s : St) : backR (.ret v) k s = k v := rfl
@[simp] theorem backR_pan (v : Value) (k : Value → Option (Ex × St)) (s : St) : backR (.pan v) k s = some (.panic v, s) := rfl
theorem runOps_call {x : Operand} {args : Array Operand} {ts : Array TypeId} : runOps P cl ops ({ dst := d, op := .call { callee := .value x, args := args, argTypes := ts }, type := ty, pos := ps, after := af, guard := none } :: rest) s =
    (s.ev x).bind fun f => (args.toList.mapM s.ev).bind fun l => (targetA f l).bind fun t => (cl t.1 t.2 s.H).bind fun r => backR r.1 (fun v => runOps P cl ops rest ((setH s r.2).put d v)) (setH s r.2) := by
  rw [runOps_of rfl]
  simp only [doOp, opA, isAlloc, Bool.false_eq_true, if_false, Option.bind_eq_bind]
  cases s.ev x with
  | none => rfl
  | some f => cases args.toList.mapM s.ev with
    | none => rfl
    | some l =>
      cases ht : targetA f l with
      | none => simp only [Option.bind_some, ht]; rfl
      | some t =>
        simp only [Option.bind_some, ht]
        cases cl t.1 t.2 s.H with
        | none => rfl
        | some r =>
          obtain ⟨r, H⟩ := r
          cases r <;> rfl
def deferA (l : List Value) : Value → Option Deferred
  | .func (.func f) first captured => some { target := .fn (.func f) captured, args := first ++ l.toArray }
  | _ => none
def addD (s : St) (x : Deferred) : St := { s with d := x :: s.d }
@[simp] theorem addD_mk (n : Nat) (f : Tr Value) (d : List Deferred) (H : Heap) (x : Deferred) : addD ⟨n, f, d, H⟩ x = ⟨n, f, x :: d, H⟩ := rfl
theorem runOps_defer {x : Operand} {args : Array Operand} {ts : Array TypeId} : runOps P cl ops ({ dst := d, op := .defer { callee := .value x, args := args, argTypes := ts }, type := ty, pos := ps, after := af, guard := none } :: rest) s =
    (s.ev x).bind fun f => (args.toList.mapM s.ev).bind fun l => (deferA l f).bind fun x => runOps P cl ops rest ((addD s x).put d undef) := by
  rw [runOps_of rfl]
  simp only [doOp, opA, isAlloc, Bool.false_eq_true, if_false, Option.bind_eq_bind]
  cases s.ev x with
  | none => rfl
  | some f => cases hl : args.toList.mapM s.ev with
    | none =>
      simp only [Option.bind_some, Option.bind_none]
      cases f <;> try rfl
      rename_i q _ _
      cases q <;> rfl
    | some l =>
      simp only [Option.bind_some]
      cases f <;> try rfl
      rename_i q _ _
      cases q <;> rfl
def panicA : Value → Option Value
  | .iface t v => some (.iface t v)
  | _ => none
theorem runOps_panic {x : Operand} : runOps P cl ops ({ dst := d, op := .panic x, type := ty, pos := ps, after := af, guard := none } :: rest) s = (s.ev x).bind fun v => (panicA v).bind fun v => some (.panic v, s) := by
  rw [runOps_of rfl]
  simp only [doOp, opA, isAlloc, Bool.false_eq_true, if_false, Option.bind_eq_bind]
  cases s.ev x with
  | none => rfl
  | some v => cases v <;> rfl
theorem put_mk (n : Nat) (f : Tr Value) (d : List Deferred) (H : Heap) (k : Tmp) (v : Value) : (St.mk n f d H).put (some k) v = if k < n then ⟨n, f.put k (some v), d, H⟩ else ⟨n, f, d, H⟩ := rfl
theorem mapM_nil' {α β : Type} (f : α → Option β) : List.mapM f [] = some [] := rfl
theorem mapM_cons' {α β : Type} (f : α → Option β) (x : α) (l : List α) : List.mapM f (x :: l) = (f x).bind fun y => (List.mapM f l).bind fun ys => some (y :: ys) := by
  rw [List.mapM_cons]; rfl
end
end Go.Am
namespace Go.Am
inductive IOp where
  | o (d : Tmp) (op : Op)
  | n (op : Op)
  | g (t : Tmp) (w : Bool) (d : Option Tmp) (op : Op)
inductive DK where
  | q
  | a (i : Nat)
  | r (i : Nat) (sees nb : List Nat)
  | c (i : Nat) (vis re : List Nat)
structure DOp where
  gd : Option (Tmp × Bool)
  d : Option Tmp
  op : Op
  k : DK
inductive IC where
  | skip | ret | bad
  | reg (l : List IOp)
  | regb (n : Nat) (l : List IOp)
  | drl (n : Nat) (l : List DOp)
  | drw (n : Nat) (l : List DOp)
  | seq (a b : IC)
  | cond (c : Operand) (a b : IC)
  | block (id : Nat) (b : IC)
  | loop (b : IC)
  | exit (id : Nat)
def cmpO (ops : Array Oper) (o : Oper) : Option IOp :=
  match o.guard, o.dst with
  | none, some d => some (.o d o.op)
  | none, none => some (.n o.op)
  | some (j, w), d => ((ops[j]?).bind (·.dst)).map fun t => .g t w d o.op
def cmpL (ops : Array Oper) : List Oper → Option (List IOp)
  | [] => some []
  | o :: rest => (cmpO ops o).bind fun x => (cmpL ops rest).map fun l => x :: l
def kdAt (ops : Array Oper) (k : Nat) (x : Kd) : Bool := match ops[k]? with | some o => kdA o == x | none => false
def cmpK (ops : Array Oper) (b : Array Nat) (i : Nat) (o : Oper) : Option DK :=
  match kdA o with
  | .quiet => some .q
  | .alloc => some (.a i)
  | .read => some (.r i ((List.range i).filter fun k => kdAt ops k .alloc && ancA b i k) ((List.range i).filter fun k => kdAt ops k .chain && !ancA b i k))
  | .chain =>
    if (List.range i).all fun k => !kdAt ops k .chain || ancA b i k then
      some (.c i ((List.range i).filter fun k => kdAt ops k .alloc && ancA b i k) ((List.range i).filter fun k => kdAt ops k .read && !ancA b i k))
    else none
def cmpG (ops : Array Oper) (o : Oper) : Option (Option (Tmp × Bool)) :=
  match o.guard with
  | none => some none
  | some (j, w) => ((ops[j]?).bind (·.dst)).map fun t => some (t, w)
def cmpD (ops : Array Oper) (b : Array Nat) : Nat → List Oper → Option (List DOp)
  | _, [] => some []
  | i, o :: rest => (cmpK ops b i o).bind fun k => (cmpG ops o).bind fun g => (cmpD ops b (i + 1) rest).map fun l => { gd := g, d := o.dst, op := o.op, k := k } :: l
def lightD (o : DOp) : Bool :=
  match o.k with
  | .q => true
  | .a _ => true
  | .r _ _ nb => nb.isEmpty
  | .c _ _ re => re.isEmpty
def lightI (o : DOp) : Bool :=
  match o.k with
  | .q => true
  | .a _ => false
  | .r _ sees nb => sees.isEmpty && nb.isEmpty && kdA { dst := none, op := o.op, type := 0, pos := "", after := #[], guard := none } == .read
  | .c _ vis re => vis.isEmpty && re.isEmpty
def toI (o : DOp) : IOp :=
  match o.gd, o.d with
  | none, some d => .o d o.op
  | none, none => .n o.op
  | some (t, w), d => .g t w d o.op
def cmpR (n : Nat) (l : List DOp) : IC :=
  if l.all lightI then .regb n (l.map toI) else if l.all lightD then .drl n l else .drw n l
def cmpC : Code → IC
  | .skip => .skip
  | .ret => .ret
  | .exit id => .exit id
  | .seq a b => .seq (cmpC a) (cmpC b)
  | .cond c a b => .cond c (cmpC a) (cmpC b)
  | .block id b => .block id (cmpC b)
  | .loop b => .loop (cmpC b)
  | .region _ ops draw =>
    if draw && !(okD ops && calmD ops) then
      if okD ops then match cmpD ops (Region.before ops) 0 ops.toList with
        | some l => cmpR (ops.size + 1) l
        | none => .bad
      else .bad
    else match cmpL ops ops.toList with
      | some l => .reg l
      | none => .bad
  | _ => .bad
def thenN (k : St → Prop) (Q : Ex → St → Prop) : Ex → St → Prop
  | .normal, s => k s
  | e, s => Q e s
@[simp] theorem thenN_normal (k : St → Prop) (Q : Ex → St → Prop) (s : St) : thenN k Q .normal s = k s := rfl
@[simp] theorem thenN_ret (k : St → Prop) (Q : Ex → St → Prop) (s : St) : thenN k Q .ret s = Q .ret s := rfl
@[simp] theorem thenN_exit (k : St → Prop) (Q : Ex → St → Prop) (i : Nat) (s : St) : thenN k Q (.exit i) s = Q (.exit i) s := rfl
@[simp] theorem thenN_panic (k : St → Prop) (Q : Ex → St → Prop) (v : Value) (s : St) : thenN k Q (.panic v) s = Q (.panic v) s := rfl
def blk (id : Nat) (Q : Ex → St → Prop) : Ex → St → Prop
  | .exit i, s => if i = id then Q .normal s else Q (.exit i) s
  | e, s => Q e s
@[simp] theorem blk_normal (id : Nat) (Q : Ex → St → Prop) (s : St) : blk id Q .normal s = Q .normal s := rfl
@[simp] theorem blk_ret (id : Nat) (Q : Ex → St → Prop) (s : St) : blk id Q .ret s = Q .ret s := rfl
@[simp] theorem blk_panic (id : Nat) (Q : Ex → St → Prop) (v : Value) (s : St) : blk id Q (.panic v) s = Q (.panic v) s := rfl
@[simp] theorem blk_exit (id i : Nat) (Q : Ex → St → Prop) (s : St) : blk id Q (.exit i) s = if i = id then Q .normal s else Q (.exit i) s := rfl
section
variable (P : Program)
def WO (op : Op) (d : Option Tmp) (s : St) (K : Ex → St → Prop) : Prop :=
  ∃ e s', doOp P (callW P) { dst := d, op := op, type := 0, pos := "", after := #[], guard := none } s = some (e, s') ∧ K e s'
def gB (v : Option Value) (w b : Bool) : Prop := v = some (.bool b) ∨ (v = some undef ∧ b = !w)
def WL : List IOp → St → (Ex → St → Prop) → Prop
  | [], s, Q => Q .normal s
  | .o d op :: rest, s, Q => WO P op (some d) s (thenN (fun s => WL rest s Q) Q)
  | .n op :: rest, s, Q => WO P op none s (thenN (fun s => WL rest s Q) Q)
  | .g t w d op :: rest, s, Q => ∃ b, gB (s.f.get t) w b ∧ if b = w then WO P op d s (thenN (fun s => WL rest s Q) Q) else WL rest (s.put d undef) Q
structure RdE where
  k : Nat
  op : Op
  s : St
  v : Value
  sees : List Nat
structure DX where
  s : St
  A : List (Nat × Blk)
  hist : List (Nat × Heap)
  rd : List RdE
def RD (op : Op) (s : St) (H : Heap) (v : Value) : Prop :=
  ∃ H', opA P { dst := none, op := op, type := 0, pos := "", after := #[], guard := none } s.ev H = some (.val v, H')
def gW (g : Option (Tmp × Bool)) (s : St) (x y : Prop) : Prop :=
  match g with
  | none => x
  | some (t, w) => ∃ b, gB (s.f.get t) w b ∧ if b = w then x else y
def bump (H : Heap) (n : Nat) : Heap := { H with next := H.next + n }
def wdB (r0 : Nat) (k : DX → Prop) (o : DOp) (x : DX) : Prop :=
  match o.k with
  | .q => WO P o.op o.d x.s (thenN (fun s => k { x with s := s }) (fun _ _ => False))
  | .a i => ∃ r, allocA P o.op x.s.ev = some r ∧ k { x with s := x.s.put o.d (r.1 (r0 + i)), A := x.A ++ [(i, r.2)] }
  | .r i sees nb => ∃ v, RD P o.op x.s (layA r0 x.s.H (x.A.filter fun p => sees.contains p.1)) v ∧
      (∀ h ∈ x.hist.takeWhile fun h => nb.contains h.1, RD P o.op x.s (layA r0 h.2 (x.A.filter fun p => sees.contains p.1)) v) ∧
      k { x with s := x.s.put o.d v, rd := ⟨i, o.op, x.s, v, sees⟩ :: x.rd }
  | .c i vis re => WO P o.op o.d (setH x.s (layA r0 x.s.H (x.A.filter fun p => vis.contains p.1))) (thenN (fun s =>
      (∀ e ∈ x.rd.filter fun e => re.contains e.k, RD P e.op e.s (layA r0 s.H ((x.A.filter fun p => !vis.contains p.1).filter fun p => e.sees.contains p.1)) e.v) ∧
      k { s := s, A := x.A.filter fun p => !vis.contains p.1, hist := (i, x.s.H) :: x.hist, rd := x.rd }) (fun _ _ => False))
def WD (r0 : Nat) : List DOp → DX → (St → Prop) → Prop
  | [], x, Q => Q (setH x.s (layA r0 x.s.H x.A))
  | o :: rest, x, Q => gW o.gd x.s (wdB P r0 (fun x => WD r0 rest x Q) o x) (WD r0 rest { x with s := x.s.put o.d undef } Q)
def weB (r0 : Nat) (k : St → List (Nat × Blk) → Prop) (o : DOp) (s : St) (A : List (Nat × Blk)) : Prop :=
  match o.k with
  | .q => WO P o.op o.d s (thenN (fun s => k s A) (fun _ _ => False))
  | .a i => ∃ r, allocA P o.op s.ev = some r ∧ k (s.put o.d (r.1 (r0 + i))) (A ++ [(i, r.2)])
  | .r _ sees _ => ∃ v, RD P o.op s (layA r0 s.H (A.filter fun p => sees.contains p.1)) v ∧ k (s.put o.d v) A
  | .c _ vis _ => WO P o.op o.d (setH s (layA r0 s.H (A.filter fun p => vis.contains p.1))) (thenN (fun s => k s (A.filter fun p => !vis.contains p.1)) (fun _ _ => False))
def WE (r0 : Nat) : List DOp → St → List (Nat × Blk) → (St → Prop) → Prop
  | [], s, A, Q => Q (setH s (layA r0 s.H A))
  | o :: rest, s, A, Q => gW o.gd s (weB P r0 (fun s A => WE r0 rest s A Q) o s A) (WE r0 rest (s.put o.d undef) A Q)
def Wq : IC → St → (Ex → St → Prop) → Prop
  | .skip, s, Q => Q .normal s
  | .ret, s, Q => Q .ret s
  | .bad, _, _ => False
  | .exit id, s, Q => Q (.exit id) s
  | .reg l, s, Q => WL P l s Q
  | .regb n l, s, Q => WL P l (setH s (bump s.H n)) (thenN (Q .normal) (fun _ _ => False))
  | .drl n l, s, Q => WE P s.H.next l (setH s (bump s.H n)) [] (Q .normal)
  | .drw n l, s, Q => WD P s.H.next l { s := setH s (bump s.H n), A := [], hist := [], rd := [] } (Q .normal)
  | .seq a b, s, Q => Wq a s (thenN (fun s => Wq b s Q) Q)
  | .cond c a b, s, Q => ∃ t, s.ev c = some (.bool t) ∧ if t then Wq a s Q else Wq b s Q
  | .block id b, s, Q => Wq b s (blk id Q)
  | .loop b, s, Q => ∀ R : St → Prop, (∀ s, Wq b s (thenN R Q) → R s) → R s
theorem WO_mono {op : Op} {d : Option Tmp} {s : St} {K K' : Ex → St → Prop} (h : WO P op d s K) (k : ∀ e s, K e s → K' e s) : WO P op d s K' := by
  obtain ⟨e, s', h1, h2⟩ := h
  exact ⟨e, s', h1, k _ _ h2⟩
theorem doOp_strip (cl : Cl) (o : Oper) (s : St) : doOp P cl o s = doOp P cl { dst := o.dst, op := o.op, type := 0, pos := "", after := #[], guard := none } s := by
  obtain ⟨d, op, ty, ps, af, gd⟩ := o
  rfl
theorem WL_run {ops : Array Oper} : ∀ (l : List Oper) (l' : List IOp), cmpL ops l = some l' → ∀ (s : St) (Q : Ex → St → Prop), WL P l' s Q → ∃ e s', runOps P (callW P) ops l s = some (e, s') ∧ Q e s'
  | [], l', h, s, Q, hw => by
    cases h
    exact ⟨_, _, rfl, hw⟩
  | o :: rest, l', h, s, Q, hw => by
    simp only [cmpL] at h
    cases hx : cmpO ops o with
    | none => rw [hx] at h; cases h
    | some x =>
      rw [hx] at h
      cases hr : cmpL ops rest with
      | none => rw [hr] at h; cases h
      | some r =>
        rw [hr] at h
        cases h
        have key : ∀ d, o.dst = d → WO P o.op d s (thenN (fun s => WL P r s Q) Q) → ∃ e s', (match doOp P (callW P) o s with | some (.normal, s') => runOps P (callW P) ops rest s' | r => r) = some (e, s') ∧ Q e s' := by
          intro d hd hk
          obtain ⟨e, s', h1, h2⟩ := hk
          rw [doOp_strip, hd, h1]
          cases e with
          | normal => exact WL_run rest r hr s' Q h2
          | exit i => exact ⟨_, _, rfl, h2⟩
          | ret => exact ⟨_, _, rfl, h2⟩
          | panic v => exact ⟨_, _, rfl, h2⟩
        simp only [runOps]
        unfold cmpO at hx
        split at hx
        · rename_i d hg hd
          cases hx
          rw [if_pos (by unfold wantedA; rw [hg])]
          exact key _ hd hw
        · rename_i hg hd
          cases hx
          rw [if_pos (by unfold wantedA; rw [hg])]
          exact key _ hd hw
        · rename_i j w hg
          cases ht : (ops[j]?).bind (·.dst) with
          | none => rw [ht] at hx; cases hx
          | some t =>
            rw [ht] at hx
            cases hx
            obtain ⟨b, hb, hw⟩ := hw
            have hwa : wantedA o ops s = (some b == some w) := by
              unfold wantedA
              rw [hg]
              simp only [yieldedA]
              rw [ht]
              dsimp only
              rcases hb with hb | ⟨hb, rfl⟩
              · rw [hb]
              · rw [hb]; cases w <;> rfl
            rw [hwa]
            by_cases hbw : b = w
            · subst hbw
              rw [if_pos (by simp)]
              rw [if_pos rfl] at hw
              exact key _ rfl hw
            · rw [if_neg (by simpa using hbw)]
              rw [if_neg hbw] at hw
              exact WL_run rest r hr _ Q hw
theorem bind_some' {α γ : Type} {x : Option α} {f : α → Option γ} {c : γ} (h : x.bind f = some c) : ∃ a, x = some a ∧ f a = some c := by
  cases x with
  | none => cases h
  | some a => exact ⟨a, rfl, h⟩
theorem map_some' {α γ : Type} {x : Option α} {f : α → γ} {c : γ} (h : x.map f = some c) : ∃ a, x = some a ∧ f a = c := by
  cases x with
  | none => cases h
  | some a => exact ⟨a, rfl, by cases h; rfl⟩
theorem opA_strip (o : Oper) (ev : Operand → Option Value) (H : Heap) : opA P o ev H = opA P { dst := none, op := o.op, type := 0, pos := "", after := #[], guard := none } ev H := by
  obtain ⟨d, op, ty, ps, af, gd⟩ := o
  rfl
mutual
theorem veq_refl : ∀ v : Value, veq v v = true
  | .bool a => by simp [veq]
  | .int k a => by simp [veq]
  | .float k a => by simp [veq]
  | .complex k a b => by simp [veq]
  | .string a => by
    simp only [veq]
    cases a with
    | mk d => show (d == d) = true; simp
  | .pointer a => by simp [veq]
  | .slice a l c => by simp [veq]
  | .map a => by simp [veq]
  | .chan a => by simp [veq]
  | .nilFunc => rfl
  | .nilIface => rfl
  | .func f x y => by simp [veq, veqA_refl x, veqA_refl y]
  | .iface t v => by simp [veq, veq_refl v]
  | .agg x => by simp [veq, veqA_refl x]
  | .tuple x => by simp [veq, veqA_refl x]
theorem veqA_refl : ∀ v : Array Value, veqA v v = true
  | ⟨x⟩ => by simp [veqA, veqL_refl x]
theorem veqL_refl : ∀ v : List Value, veqL v v = true
  | [] => rfl
  | x :: xs => by simp [veqL, veq_refl x, veqL_refl xs]
end
theorem kdAt_lt {ops : Array Oper} {k : Nat} {x : Kd} (h : kdAt ops k x = true) : k < ops.size := by
  unfold kdAt at h
  split at h
  · rename_i o ho; exact (Array.getElem?_eq_some_iff.1 ho).1
  · cases h
def rel (ops : Array Oper) (b : Array Nat) (i : Nat) (y : DX) (x : DS) : Prop :=
  x.s = y.s ∧ x.A = y.A ∧ x.hist = y.hist.map (·.2) ∧ x.cs = y.hist.map (·.1) ∧
  (∀ p ∈ y.A, p.1 < i ∧ kdAt ops p.1 .alloc = true) ∧
  (∀ h ∈ y.hist, h.1 < i ∧ kdAt ops h.1 .chain = true) ∧
  x.rd.length = y.rd.length ∧
  ∀ (j : Nat) (e : RdE) (q : Nat × Oper × St × Value), y.rd[j]? = some e → x.rd[j]? = some q →
    q.1 = e.k ∧ q.2.1.op = e.op ∧ q.2.2.1 = e.s ∧ q.2.2.2 = e.v ∧ e.k < i ∧ kdAt ops e.k .read = true ∧
    e.sees = (List.range e.k).filter fun k => kdAt ops k .alloc && ancA b e.k k
theorem readsA_of {r0 : Nat} {b : Array Nat} {A : List (Nat × Blk)} {i : Nat} {o : Oper} {s : St} {H : Heap} {v : Value} {sees : List Nat}
    (hs : (A.filter fun p => ancA b i p.1) = A.filter fun p => sees.contains p.1) (h : RD P o.op s (layA r0 H (A.filter fun p => sees.contains p.1)) v) :
    readsA P r0 b A i o s H = some v := by
  obtain ⟨H', h⟩ := h
  unfold readsA
  rw [hs, opA_strip, h]
theorem sees_eq {ops : Array Oper} {b : Array Nat} {A : List (Nat × Blk)} {j : Nat} (hA : ∀ p ∈ A, kdAt ops p.1 .alloc = true)
    (hanc : ∀ k, k < ops.size → ancA b j k = true → k < j) :
    (A.filter fun p => ancA b j p.1) = A.filter fun p => ((List.range j).filter fun k => kdAt ops k .alloc && ancA b j k).contains p.1 := by
  apply List.filter_congr
  intro p hp
  rw [Bool.eq_iff_iff]
  simp only [List.contains_iff_mem, List.mem_filter, List.mem_range, Bool.and_eq_true]
  constructor
  · intro h; exact ⟨hanc _ (kdAt_lt (hA p hp)) h, hA p hp, h⟩
  · intro h; exact h.2.2
theorem WD_sound {ops : Array Oper} {b : Array Nat} {r0 : Nat} (hanc : ∀ j, j < ops.size → ∀ k, k < ops.size → ancA b j k = true → k < j) :
    ∀ (l : List Oper) (i : Nat) (l' : List DOp), (∀ j o, l[j]? = some o → ops[i + j]? = some o) → cmpD ops b i l = some l' → ∀ (y : DX) (x : DS) (Q : St → Prop), rel ops b i y x → WD P r0 l' y Q →
    ∃ x', runD P (callW P) ops b r0 i l x = some x' ∧ Q (setH x'.s (layA r0 x'.s.H x'.A))
  | [], i, l', _, h, y, x, Q, hr, hw => by
    cases h
    refine ⟨x, rfl, ?_⟩
    rw [hr.1, hr.2.1]; exact hw
  | o :: rest, i, l', hl, h, y, x, Q, hr, hw => by
    simp only [cmpD] at h
    obtain ⟨k, hk, h⟩ := bind_some' h
    obtain ⟨g, hg, h⟩ := bind_some' h
    obtain ⟨r, hrest, h⟩ := map_some' h
    subst h
    have hl' : ∀ j o, rest[j]? = some o → ops[i + 1 + j]? = some o := by
      intro j o hj
      have := hl (j + 1) o (by simpa using hj)
      rwa [show i + 1 + j = i + (j + 1) by omega]
    have hoi : ops[i]? = some o := by simpa using hl 0 o (by simp)
    have hi : i < ops.size := (Array.getElem?_eq_some_iff.1 hoi).1
    have ih := fun (y : DX) (x : DS) (Q : St → Prop) (hr : rel ops b (i + 1) y x) (hw : WD P r0 r y Q) => WD_sound hanc rest (i + 1) r hl' hrest y x Q hr hw
    obtain ⟨h1, h2, h3, h4, h5, h6, h7, h8⟩ := hr
    have relS : ∀ s : St, rel ops b (i + 1) { y with s := s } { x with s := s } := fun s =>
      ⟨rfl, h2, h3, h4, fun p hp => ⟨by have := (h5 p hp).1; omega, (h5 p hp).2⟩, fun p hp => ⟨by have := (h6 p hp).1; omega, (h6 p hp).2⟩, h7,
       fun j e q he hq => by obtain ⟨a1, a2, a3, a4, a5, a6, a7⟩ := h8 j e q he hq; exact ⟨a1, a2, a3, a4, by omega, a6, a7⟩⟩
    simp only [runD]
    have unwanted : wantedA o ops x.s = false → WD P r0 r { y with s := y.s.put o.dst undef } Q →
        ∃ x', (stepD P (callW P) ops b r0 i o x).bind (runD P (callW P) ops b r0 (i + 1) rest) = some x' ∧ Q (setH x'.s (layA r0 x'.s.H x'.A)) := by
      intro hwa hw
      unfold stepD
      rw [hwa]
      simp only [Bool.false_eq_true, if_false, Option.bind_some]
      refine ih _ _ Q ?_ hw
      rw [h1]; exact relS _
    have wanted : wantedA o ops x.s = true → wdB P r0 (fun x => WD P r0 r x Q) { gd := g, d := o.dst, op := o.op, k := k } y →
        ∃ x', (stepD P (callW P) ops b r0 i o x).bind (runD P (callW P) ops b r0 (i + 1) rest) = some x' ∧ Q (setH x'.s (layA r0 x'.s.H x'.A)) := by
      intro hwa hw
      unfold stepD
      rw [hwa]
      simp only [if_true]
      unfold cmpK at hk
      cases hkd : kdA o with
      | quiet =>
        rw [hkd] at hk
        cases hk
        obtain ⟨e, s', hd, hq⟩ := hw
        unfold doOp at hd
        obtain ⟨⟨v, H⟩, ho, hd⟩ := bind_some hd
        have ho' : opA P o y.s.ev y.s.H = some (v, H) := by rw [opA_strip]; exact ho
        have hH := (quiet_indep hkd ho').1
        obtain ⟨u, rfl⟩ := calm_isval (.inl hkd) ho'
        subst hH
        cases hd
        rw [h1]
        simp only [ho', Option.bind_eq_bind, Option.bind_some]
        refine ih _ _ Q ?_ hq
        exact relS _
      | alloc =>
        rw [hkd] at hk
        cases hk
        obtain ⟨q, hq, hw⟩ := hw
        rw [h1]
        simp only [hq, Option.bind_eq_bind, Option.bind_some]
        refine ih _ _ Q ?_ hw
        refine ⟨rfl, by rw [h2], h3, h4, ?_, (relS x.s).2.2.2.2.2.1, h7, (relS x.s).2.2.2.2.2.2.2⟩
        intro p hp
        rcases List.mem_append.1 hp with hp | hp
        · exact (relS x.s).2.2.2.2.1 p hp
        · simp only [List.mem_singleton] at hp
          subst hp
          refine ⟨Nat.lt_succ_self i, ?_⟩
          unfold kdAt
          rw [hoi]; simp [hkd]
      | read =>
        rw [hkd] at hk
        cases hk
        obtain ⟨v, hv, hb, hw⟩ := hw
        have hse := sees_eq (ops := ops) (b := b) (A := y.A) (fun p hp => (h5 p hp).2) (hanc i hi)
        have hrd := readsA_of P hse hv
        rw [h1, h2]
        simp only [hrd, Option.bind_eq_bind, Option.bind_some]
        have hback : backA P r0 b y.A i o y.s v x.cs x.hist = true := by
          rw [h3, h4]
          have : ∀ hs : List (Nat × Heap), (∀ h ∈ hs, h.1 < i ∧ kdAt ops h.1 .chain = true) →
              (∀ h ∈ hs.takeWhile fun h => ((List.range i).filter fun k => kdAt ops k .chain && !ancA b i k).contains h.1, RD P o.op y.s (layA r0 h.2 (y.A.filter fun p => ((List.range i).filter fun k => kdAt ops k .alloc && ancA b i k).contains p.1)) v) →
              backA P r0 b y.A i o y.s v (hs.map (·.1)) (hs.map (·.2)) = true := by
            intro hs
            induction hs with
            | nil => intro _ _; rfl
            | cons c hs ihs =>
              intro hc hh
              simp only [List.map_cons, backA]
              split
              · rfl
              · rename_i hna
                have hnb : ((List.range i).filter fun k => kdAt ops k .chain && !ancA b i k).contains c.1 = true := by
                  simp only [List.contains_iff_mem, List.mem_filter, List.mem_range, Bool.and_eq_true, Bool.not_eq_true']
                  exact ⟨(hc c (by simp)).1, (hc c (by simp)).2, by simpa using hna⟩
                rw [List.takeWhile_cons_of_pos (p := fun h : Nat × Heap => ((List.range i).filter fun k => kdAt ops k .chain && !ancA b i k).contains h.1) hnb] at hh
                rw [readsA_of P hse (hh c (by simp))]
                simp only [veq_refl, Bool.true_and]
                exact ihs (fun h hm => hc h (by simp [hm])) (fun h hm => hh h (List.mem_cons_of_mem _ hm))
          exact this y.hist h6 hb
        rw [hback]
        simp only [if_true, Option.bind_some]
        refine ih _ _ Q ?_ hw
        refine ⟨rfl, rfl, h3, h4, (relS x.s).2.2.2.2.1, (relS x.s).2.2.2.2.2.1, by simp [h7], ?_⟩
        intro j e q he hq
        cases j with
        | zero =>
          simp only [List.getElem?_cons_zero, Option.some.injEq] at he hq
          subst he hq
          refine ⟨rfl, rfl, rfl, rfl, Nat.lt_succ_self i, ?_, rfl⟩
          unfold kdAt
          rw [hoi]; simp [hkd]
        | succ j =>
          simp only [List.getElem?_cons_succ] at he hq
          exact (relS x.s).2.2.2.2.2.2.2 j e q he hq
      | chain =>
        rw [hkd] at hk
        simp only at hk
        split at hk
        case isFalse => cases hk
        rename_i hch
        cases hk
        have hcs : x.cs.all (ancA b i) = true := by
          rw [h4, List.all_eq_true]
          intro c hc
          obtain ⟨h, hh, rfl⟩ := List.mem_map.1 hc
          have := List.all_eq_true.1 hch h.1 (List.mem_range.2 (h6 h hh).1)
          simpa [(h6 h hh).2] using this
        rw [hcs]
        simp only [if_true]
        have hse := sees_eq (ops := ops) (b := b) (A := y.A) (fun p hp => (h5 p hp).2) (hanc i hi)
        obtain ⟨e, s', hd, hq⟩ := hw
        have hnf : (y.A.filter fun p => !ancA b i p.1) = y.A.filter fun p => !((List.range i).filter fun k => kdAt ops k .alloc && ancA b i k).contains p.1 := by
          apply List.filter_congr
          intro p hp
          have : ancA b i p.1 = ((List.range i).filter fun k => kdAt ops k .alloc && ancA b i k).contains p.1 := by
            rw [Bool.eq_iff_iff]
            simp only [List.contains_iff_mem, List.mem_filter, List.mem_range, Bool.and_eq_true]
            exact ⟨fun h => ⟨hanc i hi _ (kdAt_lt (h5 p hp).2) h, (h5 p hp).2, h⟩, fun h => h.2.2⟩
          rw [this]
        have hd' : doOp P (callW P) o { y.s with H := layA r0 y.s.H (y.A.filter fun p => ancA b i p.1) } = some (e, s') := by
          rw [doOp_strip, hse]; exact hd
        rw [h1, h2]
        simp only [hd', Option.bind_eq_bind, Option.bind_some]
        cases e with
        | normal =>
          obtain ⟨hre, hw⟩ := hq
          have hall : (x.rd.all fun (k, ok, sk, v) => ancA b i k || (match readsA P r0 b (y.A.filter fun p => !ancA b i p.1) k ok sk s'.H with | some u => veq u v | none => false)) = true := by
            rw [List.all_eq_true]
            intro q hqm
            obtain ⟨j, hj⟩ := List.mem_iff_getElem?.1 hqm
            have hjl : j < y.rd.length := by
              rw [← h7]; exact (List.getElem?_eq_some_iff.1 hj).1
            obtain ⟨e, he⟩ : ∃ e, y.rd[j]? = some e := ⟨_, List.getElem?_eq_getElem hjl⟩
            obtain ⟨a1, a2, a3, a4, a5, a6, a7⟩ := h8 j e q he hj
            obtain ⟨qk, qo, qs, qv⟩ := q
            simp only at a1 a2 a3 a4
            subst a1 a3 a4
            show (ancA b i e.k || (match readsA P r0 b (y.A.filter fun p => !ancA b i p.1) e.k qo e.s s'.H with | some u => veq u e.v | none => false)) = true
            cases hax : ancA b i e.k with
            | true => rfl
            | false =>
              simp only [Bool.false_or]
              have hmem : e ∈ y.rd.filter fun e => ((List.range i).filter fun k => kdAt ops k .read && !ancA b i k).contains e.k := by
                simp only [List.mem_filter, List.contains_iff_mem, List.mem_range, Bool.and_eq_true, Bool.not_eq_true']
                exact ⟨List.mem_iff_getElem?.2 ⟨j, he⟩, a5, a6, hax⟩
              have hrd := hre e hmem
              rw [← a2] at hrd
              have hs2 := sees_eq (ops := ops) (b := b) (A := y.A.filter fun p => !ancA b i p.1) (fun p hp => (h5 p (List.mem_filter.1 hp).1).2) (hanc e.k (kdAt_lt a6))
              rw [← a7] at hs2
              rw [readsA_of P hs2 (by rw [hnf]; exact hrd)]
              exact veq_refl _
          have e2 : ∀ (c : Bool) (z : DS), c = true → ((if c = true then some z else none).bind (runD P (callW P) ops b r0 (i + 1) rest)) = runD P (callW P) ops b r0 (i + 1) rest z := by
            intro c z hc; rw [hc]; rfl
          have hrel : rel ops b (i + 1) { s := s', A := y.A.filter fun p => !((List.range i).filter fun k => kdAt ops k .alloc && ancA b i k).contains p.1, hist := (i, y.s.H) :: y.hist, rd := y.rd } { s := s', A := y.A.filter fun p => !ancA b i p.1, hist := y.s.H :: x.hist, cs := i :: x.cs, rd := x.rd } := by
            refine ⟨rfl, hnf, by simp [h3], by simp [h4], ?_, ?_, h7, (relS x.s).2.2.2.2.2.2.2⟩
            · intro p hp
              exact (relS x.s).2.2.2.2.1 p (List.mem_filter.1 hp).1
            · intro h hh
              rcases List.mem_cons.1 hh with hh | hh
              · subst hh
                refine ⟨Nat.lt_succ_self i, ?_⟩
                unfold kdAt
                rw [hoi]; simp [hkd]
              · exact (relS x.s).2.2.2.2.2.1 h hh
          obtain ⟨x', hx1, hx2⟩ := ih _ _ Q hrel hw
          exact ⟨x', (e2 _ _ hall).trans hx1, hx2⟩
        | exit i => exact hq.elim
        | ret => exact hq.elim
        | panic v => exact hq.elim
    unfold cmpG at hg
    have hw' := hw
    simp only [WD] at hw'
    split at hg
    · rename_i hgn
      cases hg
      exact wanted (by unfold wantedA; rw [hgn]) hw'
    · rename_i j w hgn
      obtain ⟨t, ht, rfl⟩ := map_some' hg
      obtain ⟨bb, hbb, hw'⟩ := hw'
      have hwa : wantedA o ops x.s = (some bb == some w) := by
        unfold wantedA
        rw [hgn]
        simp only [yieldedA]
        rw [ht]
        dsimp only
        rw [h1]
        rcases hbb with hbb | ⟨hbb, rfl⟩
        · rw [hbb]
        · rw [hbb]; cases w <;> rfl
      by_cases hbw : bb = w
      · rw [if_pos hbw] at hw'
        exact wanted (by rw [hwa]; simp [hbw]) hw'
      · rw [if_neg hbw] at hw'
        exact unwanted (by rw [hwa]; simpa using hbw) hw'
theorem gW_mono {g : Option (Tmp × Bool)} {s : St} {x y x' y' : Prop} (h : gW g s x y) (hx : x → x') (hy : y → y') : gW g s x' y' := by
  cases g with
  | none => exact hx h
  | some g =>
    obtain ⟨b, hb, h⟩ := h
    refine ⟨b, hb, ?_⟩
    split at h
    · rename_i e; rw [if_pos e]; exact hx h
    · rename_i e; rw [if_neg e]; exact hy h
theorem WD_of_WE {r0 : Nat} : ∀ (l : List DOp), l.all lightD = true → ∀ (x : DX) (Q : St → Prop), WE P r0 l x.s x.A Q → WD P r0 l x Q
  | [], _, x, Q, h => h
  | o :: rest, hl, x, Q, h => by
    simp only [List.all_cons, Bool.and_eq_true] at hl
    simp only [WE, WD] at h ⊢
    refine gW_mono h ?_ (fun h => WD_of_WE rest hl.2 _ Q h)
    have h1 := hl.1
    unfold lightD at h1
    unfold weB wdB
    cases hk : o.k with
    | q => exact fun h => WO_mono P h fun e s h => by
            cases e <;> first | exact WD_of_WE rest hl.2 _ Q h | exact h
    | a i => exact fun ⟨r, hr, h⟩ => ⟨r, hr, WD_of_WE rest hl.2 _ Q h⟩
    | r i sees nb =>
      rw [hk] at h1
      have hn : nb = [] := by simpa using h1
      subst hn
      refine fun ⟨v, h1, h⟩ => ⟨v, h1, ?_, WD_of_WE rest hl.2 _ Q h⟩
      intro h hh
      have : x.hist.takeWhile (fun h => ([] : List Nat).contains h.1) = [] := by
        cases x.hist with
        | nil => rfl
        | cons a b => simp
      rw [this] at hh; cases hh
    | c i vis re =>
      rw [hk] at h1
      have hn : re = [] := by simpa using h1
      subst hn
      refine fun h => WO_mono P h fun e s h => ?_
      cases e with
      | normal => exact ⟨by simp, WD_of_WE rest hl.2 _ Q h⟩
      | _ => exact h
theorem WE_of_WL {r0 : Nat} : ∀ (l : List DOp), l.all lightI = true → ∀ (s : St) (Q : St → Prop), WL P (l.map toI) s (thenN Q (fun _ _ => False)) → WE P r0 l s [] Q
  | [], _, s, Q, h => h
  | o :: rest, hl, s, Q, h => by
    simp only [List.all_cons, Bool.and_eq_true] at hl
    have h1 := hl.1
    have step : WO P o.op o.d s (thenN (fun s => WL P (rest.map toI) s (thenN Q (fun _ _ => False))) (thenN Q (fun _ _ => False))) → weB P r0 (fun s A => WE P r0 rest s A Q) o s [] := by
      intro h
      unfold lightI at h1
      unfold weB
      cases hk : o.k with
      | q =>
        refine WO_mono P h fun e s h => ?_
        cases e <;> first | exact WE_of_WL rest hl.2 _ Q h | exact h
      | a i => rw [hk] at h1; cases h1
      | r i sees nb =>
        rw [hk] at h1
        simp only [Bool.and_eq_true, beq_iff_eq] at h1
        obtain ⟨e, s', hd, hq⟩ := h
        unfold doOp at hd
        obtain ⟨⟨v, H⟩, ho, hd⟩ := bind_some hd
        have ho' : opA P { dst := none, op := o.op, type := 0, pos := "", after := #[], guard := none } s.ev s.H = some (v, H) := ho
        obtain ⟨hH, u, rfl⟩ := read_same h1.2 ho'
        subst hH
        cases hd
        exact ⟨u, ⟨_, ho'⟩, WE_of_WL rest hl.2 _ Q hq⟩
      | c i vis re =>
        refine WO_mono P h fun e s h => ?_
        cases e <;> first | exact WE_of_WL rest hl.2 _ Q h | exact h
    simp only [WE]
    obtain ⟨gd, d, op, k⟩ := o
    cases gd with
    | none =>
      cases d with
      | none => exact step h
      | some d => exact step h
    | some g =>
      obtain ⟨b, hb, h⟩ := h
      refine ⟨b, hb, ?_⟩
      split at h
      · rename_i e; rw [if_pos e]; exact step h
      · rename_i e; rw [if_neg e]; exact WE_of_WL rest hl.2 _ Q h
theorem WD_of_cmpR {n : Nat} {l : List DOp} {s : St} {Q : Ex → St → Prop} (h : Wq P (cmpR n l) s Q) : WD P s.H.next l { s := setH s (bump s.H n), A := [], hist := [], rd := [] } (Q .normal) := by
  unfold cmpR at h
  split at h
  · rename_i hl
    refine WD_of_WE P l ?_ _ _ (WE_of_WL P l hl _ _ h)
    rw [List.all_eq_true] at hl ⊢
    intro o ho
    have := hl o ho
    unfold lightI at this
    unfold lightD
    cases hk : o.k <;> rw [hk] at this <;> simp_all
  · split at h
    · rename_i hl; exact WD_of_WE P l hl _ _ h
    · exact h
theorem Wq_sound : ∀ (c : Code) (s : St) (Q : Ex → St → Prop), Wq P (cmpC c) s Q → ∃ e s', execW P c s = some (e, s') ∧ Q e s' := by
  intro c
  induction c with
  | skip => intro s Q h; exact ⟨_, _, execW_skip s, h⟩
  | ret => intro s Q h; exact ⟨_, _, execW_ret s, h⟩
  | exit id => intro s Q h; exact ⟨_, _, execW_exit id s, h⟩
  | seq a b iha ihb =>
    intro s Q h
    obtain ⟨e, s', h1, h2⟩ := iha s _ h
    rw [execW_seq, h1]
    cases e with
    | normal => exact ihb s' Q h2
    | exit i => exact ⟨_, _, rfl, h2⟩
    | ret => exact ⟨_, _, rfl, h2⟩
    | panic v => exact ⟨_, _, rfl, h2⟩
  | cond c a b iha ihb =>
    intro s Q h
    obtain ⟨t, ht, h1⟩ := h
    rw [execW_cond, ht]
    cases t with
    | true => exact iha s Q (by simpa using h1)
    | false => exact ihb s Q (by simpa using h1)
  | block id b ih =>
    intro s Q h
    obtain ⟨e, s', h1, h2⟩ := ih s _ h
    rw [execW_block, h1]
    cases e with
    | exit i =>
      simp only [blk_exit] at h2
      by_cases hi : i = id
      · rw [if_pos hi] at h2; exact ⟨_, _, by simp [hi], h2⟩
      · rw [if_neg hi] at h2; exact ⟨_, _, by simp [hi], h2⟩
    | normal => exact ⟨_, _, rfl, h2⟩
    | ret => exact ⟨_, _, rfl, h2⟩
    | panic v => exact ⟨_, _, rfl, h2⟩
  | loop b ih =>
    intro s Q h
    refine h (fun s => ∃ e s', execW P (.loop b) s = some (e, s') ∧ Q e s') ?_
    intro s hs
    obtain ⟨e, s', h1, h2⟩ := ih s _ hs
    rw [execW_loop, h1]
    cases e with
    | normal => exact h2
    | exit i => exact ⟨_, _, rfl, h2⟩
    | ret => exact ⟨_, _, rfl, h2⟩
    | panic v => exact ⟨_, _, rfl, h2⟩
  | region id ops draw =>
    intro s Q h
    unfold cmpC at h
    split at h
    · rename_i hc
      simp only [Bool.and_eq_true, Bool.not_eq_true'] at hc
      split at h
      case isFalse => exact h.elim
      rename_i hok
      cases hl : cmpD ops (Region.before ops) 0 ops.toList with
      | none => rw [hl] at h; exact h.elim
      | some l =>
        rw [hl] at h
        have hcalm : calmD ops = false := by
          have := hc.2
          rw [hok] at this
          simpa using this
        have h := WD_of_cmpR P h
        obtain ⟨x', h1, h2⟩ := WD_sound P (r0 := s.H.next) (okD_spec hok).lt ops.toList 0 l (fun j o hj => by simpa using hj) hl
          { s := setH s (bump s.H (ops.size + 1)), A := [], hist := [], rd := [] }
          { s := { s with H := { s.H with next := s.H.next + ops.size + 1 } }, A := [], hist := [], cs := [], rd := [] } (Q .normal)
          ⟨rfl, rfl, rfl, rfl, by simp, by simp, rfl, by simp⟩ h
        refine ⟨.normal, _, ?_, h2⟩
        rw [hc.1, execW_draw]
        unfold regionD
        rw [if_pos hok]
        dsimp only
        rw [h1]
        simp only [Option.bind_eq_bind, Option.bind_some, hcalm, Bool.false_eq_true, if_false]
        rfl
    · rename_i hc
      cases hl : cmpL ops ops.toList with
      | none => rw [hl] at h; exact h.elim
      | some l =>
        rw [hl] at h
        obtain ⟨e, s', h1, h2⟩ := WL_run P ops.toList l hl s Q h
        refine ⟨e, s', ?_, h2⟩
        cases draw with
        | false => rw [execW_text]; exact h1
        | true =>
          rw [execW_draw]
          simp only [Bool.true_and, Bool.not_eq_true', Bool.not_eq_false, Bool.and_eq_true] at hc
          exact regionD_calm hc.1 hc.2 h1
  | _ => intro s Q h; exact h.elim
theorem WL_mono : ∀ (l : List IOp) {s : St} {K K' : Ex → St → Prop}, WL P l s K → (∀ e s, K e s → K' e s) → WL P l s K'
  | [], _, _, _, h, k => k _ _ h
  | .o d op :: rest, s, K, K', h, k => WO_mono P h fun e s h => by
    cases e with
    | normal => exact WL_mono rest h k
    | _ => exact k _ _ h
  | .n op :: rest, s, K, K', h, k => WO_mono P h fun e s h => by
    cases e with
    | normal => exact WL_mono rest h k
    | _ => exact k _ _ h
  | .g t w d op :: rest, s, K, K', h, k => by
    obtain ⟨b, hb, h⟩ := h
    refine ⟨b, hb, ?_⟩
    split at h
    · rename_i e
      rw [if_pos e]
      exact WO_mono P h fun e s h => by
        cases e with
        | normal => exact WL_mono rest h k
        | _ => exact k _ _ h
    · rename_i e
      rw [if_neg e]
      exact WL_mono rest h k
theorem WD_mono {r0 : Nat} : ∀ (l : List DOp) {x : DX} {Q Q' : St → Prop}, WD P r0 l x Q → (∀ s, Q s → Q' s) → WD P r0 l x Q'
  | [], x, Q, Q', h, k => k _ h
  | o :: rest, x, Q, Q', h, k => by
    simp only [WD] at h ⊢
    refine gW_mono h ?_ (fun h => WD_mono rest h k)
    unfold wdB
    cases o.k with
    | q => exact fun h => WO_mono P h fun e s h => by
            cases e <;> first | exact WD_mono rest h k | exact h
    | a i => exact fun ⟨r, hr, h⟩ => ⟨r, hr, WD_mono rest h k⟩
    | r i sees nb => exact fun ⟨v, h1, h2, h⟩ => ⟨v, h1, h2, WD_mono rest h k⟩
    | c i vis re => exact fun h => WO_mono P h fun e s h => by
                        cases e <;> first | exact ⟨h.1, WD_mono rest h.2 k⟩ | exact h
theorem WE_mono {r0 : Nat} : ∀ (l : List DOp) {s : St} {A : List (Nat × Blk)} {Q Q' : St → Prop}, WE P r0 l s A Q → (∀ s, Q s → Q' s) → WE P r0 l s A Q'
  | [], s, A, Q, Q', h, k => k _ h
  | o :: rest, s, A, Q, Q', h, k => by
    simp only [WE] at h ⊢
    refine gW_mono h ?_ (fun h => WE_mono rest h k)
    unfold weB
    cases o.k with
    | q => exact fun h => WO_mono P h fun e s h => by
            cases e <;> first | exact WE_mono rest h k | exact h
    | a i => exact fun ⟨r, hr, h⟩ => ⟨r, hr, WE_mono rest h k⟩
    | r i sees nb => exact fun ⟨v, h1, h⟩ => ⟨v, h1, WE_mono rest h k⟩
    | c i vis re => exact fun h => WO_mono P h fun e s h => by
                        cases e <;> first | exact WE_mono rest h k | exact h
theorem Wq_mono : ∀ (c : IC) {s : St} {K K' : Ex → St → Prop}, Wq P c s K → (∀ e s, K e s → K' e s) → Wq P c s K' := by
  intro c
  induction c with
  | skip => intro s K K' h k; exact k _ _ h
  | ret => intro s K K' h k; exact k _ _ h
  | bad => intro s K K' h k; exact h
  | exit id => intro s K K' h k; exact k _ _ h
  | reg l => intro s K K' h k; exact WL_mono P l h k
  | regb n l => intro s K K' h k; exact WL_mono P l h (fun e s h => by cases e <;> first | exact k _ _ h | exact h)
  | drl n l => intro s K K' h k; exact WE_mono P l h (fun s h => k _ _ h)
  | drw n l => intro s K K' h k; exact WD_mono P l h (fun s h => k _ _ h)
  | seq a b iha ihb =>
    intro s K K' h k
    refine iha h ?_
    intro e s h
    cases e with
    | normal => exact ihb h k
    | _ => exact k _ _ h
  | cond c a b iha ihb =>
    intro s K K' h k
    obtain ⟨t, ht, h⟩ := h
    refine ⟨t, ht, ?_⟩
    cases t with
    | true => exact iha h k
    | false => exact ihb h k
  | block id b ih =>
    intro s K K' h k
    refine ih h ?_
    intro e s h
    cases e with
    | exit i =>
      simp only [blk_exit] at h ⊢
      split at h
      · rename_i e; rw [if_pos e]; exact k _ _ h
      · rename_i e; rw [if_neg e]; exact k _ _ h
    | _ => exact k _ _ h
  | loop b ih =>
    intro s K K' h k R hR
    refine h R ?_
    intro s hs
    refine hR s (ih hs ?_)
    intro e s h
    cases e with
    | normal => exact h
    | _ => exact k _ _ h
theorem Wq_loop {b : IC} {s : St} {Q : Ex → St → Prop} (I : Nat → St → Prop) (n : Nat) (h0 : I n s)
    (hs : ∀ n s, I n s → Wq P b s (thenN (fun s' => ∃ m, m < n ∧ I m s') Q)) : Wq P (.loop b) s Q := by
  intro R hR
  have : ∀ n s, I n s → R s := by
    intro n
    induction n using Nat.strongRecOn with
    | _ n ih =>
      intro s hI
      refine hR s (Wq_mono P b (hs n s hI) ?_)
      intro e s' h
      cases e with
      | normal => obtain ⟨m, hm, hI⟩ := h; exact ih m hm s' hI
      | _ => exact h
  exact this n s h0
structure IFn where
  nt : Nat
  body : IC
  res : List ResultVar
def ifn (f : FuncId) : Option IFn := (P.funcs[f]?).bind fun fn => fn.body.map fun c => { nt := fn.ntmps, body := cmpC c, res := fn.results.toList }
def CW (f : FuncId) (args : Array Value) (H : Heap) (Q : CR → Heap → Prop) : Prop := ∃ r H', callW P f args H = some (r, H') ∧ Q r H'
theorem CW_mono {f : FuncId} {args : Array Value} {H : Heap} {Q Q' : CR → Heap → Prop} (h : CW P f args H Q) (k : ∀ r H, Q r H → Q' r H) : CW P f args H Q' := by
  obtain ⟨r, H', h1, h2⟩ := h
  exact ⟨r, H', h1, k _ _ h2⟩
def resW (res : List ResultVar) (s : St) : Option Value := (res.mapM (resultA P s)).bind fun l => match l with | [v] => some v | vs => some (.tuple vs.toArray)
def retW (res : List ResultVar) (Q : CR → Heap → Prop) : Ex → St → Prop
  | .normal, s => s.d = [] ∧ ∃ v, resW P res s = some v ∧ Q (.ret v) s.H
  | .ret, s => s.d = [] ∧ ∃ v, resW P res s = some v ∧ Q (.ret v) s.H
  | .panic v, s => s.d = [] ∧ Q (.pan v) s.H
  | .exit _, _ => False
def entW (nt : Nat) (args : Array Value) (H : Heap) : St := { n := Nat.max nt args.size, f := ofArgs 0 args.toList, d := [], H := H }
theorem CW_of {f : FuncId} {F : IFn} (hf : ifn P f = some F) {args : Array Value} {H : Heap} {Q : CR → Heap → Prop}
    (h : Wq P F.body (entW F.nt args H) (retW P F.res Q)) : CW P f args H Q := by
  unfold ifn at hf
  obtain ⟨fn, hfn, h1⟩ := bind_some (x := P.funcs[f]?) hf
  obtain ⟨c, hc, h2⟩ := map_some h1
  subst h2
  obtain ⟨e, s', h3, h4⟩ := Wq_sound P c _ _ h
  unfold CW
  rw [callW_eq]
  unfold callA
  simp only [hfn, hc, Option.bind_eq_bind, Option.bind_some]
  have he : execW P c (enterA fn args H) = some (e, s') := h3
  rw [he]
  have hres : ∀ v, resW P fn.results.toList s' = some v → resultsA P fn { s' with H := s'.H } = some v := by
    intro v hv
    unfold resultsA
    unfold resW at hv
    obtain ⟨l, hl, hv⟩ := bind_some hv
    have hl' : List.mapM (resultA P { s' with H := s'.H }) fn.results.toList = some l := hl
    rw [hl']
    exact hv
  cases e with
  | normal =>
    obtain ⟨hd, v, hv, hq⟩ := h4
    refine ⟨.ret v, s'.H, ?_, hq⟩
    dsimp only [Option.bind_some]
    rw [hd]
    unfold unwindA
    rw [hres v hv]; rfl
  | ret =>
    obtain ⟨hd, v, hv, hq⟩ := h4
    refine ⟨.ret v, s'.H, ?_, hq⟩
    dsimp only [Option.bind_some]
    rw [hd]
    unfold unwindA
    rw [hres v hv]; rfl
  | panic v =>
    obtain ⟨hd, hq⟩ := h4
    refine ⟨.pan v, s'.H, ?_, hq⟩
    dsimp only [Option.bind_some]
    rw [hd]
    simp [unwindA]
  | exit i => exact h4.elim
end
end Go.Am
namespace Go.Am
def sliceS (H : Heap) (size : Nat) (a : Option Addr) (len cap : Nat) (low high max : Option Value) : Option Value := do
    if cap = openCap then
      match a with
      | none => none
      | some a =>
        if a.spot.isSome || size = 0 then none else
        let x ← H.get a.block
        if x.es ≠ size then none else
        let most := (x.cells.length - a.off) / size
        match max with
        | none =>
          let h ← boundA high len most
          let l ← boundA low 0 h
          some (.slice (some ⟨a.block, a.off + l * size, none⟩) (h - l) openCap)
        | some _ =>
          if high.isNone then none else
          let m ← boundA max most most
          let h ← boundA high len m
          let l ← boundA low 0 h
          if m < openCap then some (.slice (some ⟨a.block, a.off + l * size, none⟩) (h - l) (m - l)) else none
    else
      if max.isSome && high.isNone then none else
      let m ← boundA max cap cap
      let h ← boundA high len m
      let l ← boundA low 0 h
      match a with
      | none => some (.slice none (h - l) (m - l))
      | some a => if a.spot.isSome then none else some (.slice (some ⟨a.block, a.off + l * size, none⟩) (h - l) (m - l))
def sliceR (n size : Nat) (b o : Nat) (low high max : Option Value) : Option Value := do
    if max.isSome && high.isNone then none else
    let m ← boundA max n n
    let h ← boundA high n m
    let l ← boundA low 0 h
    some (.slice (some ⟨b, o + l * size, none⟩) (h - l) (m - l))
def appS (H : Heap) (elem size bytes : Nat) (base : Option Addr) (len cap : Nat) (x : Value) : Option (Value × Heap) := do
    let n ← lengthA x
    let need := len + n
    let news ← firstA H size n x
    if cap ≠ openCap then
      if need ≤ cap then
        match base with
        | none => if n = 0 then some (.slice none need cap, H) else none
        | some a => if n = 0 then some (.slice (some a) need cap, H) else (H.stores ⟨a.block, a.off + len * size, a.spot⟩ news).map fun H => (.slice (some a) need cap, H)
      else
        if 4 * need * bytes + 4096 > 2 ^ 47 || need > 2 ^ 47 then none else
        let olds ← firstA H size len (.slice base len cap)
        some (.slice (some ⟨H.next, 0, none⟩) need openCap, H.alloc ⟨elem, size, true, olds ++ news⟩)
    else
      match base with
      | none => none
      | some a =>
        if a.spot.isSome || a.block < base0 then none else
        let x ← H.get a.block
        if x.es ≠ size || !x.opn then none else
        if n = 0 then some (.slice (some a) need cap, H)
        else if a.off + need * size ≤ x.cells.length then (H.stores ⟨a.block, a.off + len * size, none⟩ news).map fun H => (.slice (some a) need cap, H)
        else if a.off + len * size ≠ x.cells.length || !news.all Heap.oneC then none
        else if 4 * need * bytes + 4096 > 2 ^ 47 || need > 2 ^ 47 then none
        else some (.slice (some ⟨H.next, 0, none⟩) need openCap, (H.del a.block).alloc ⟨elem, size, true, x.cells.drop a.off ++ news⟩)
def buildS (places : List (Nat × Nat)) (zero : Array Value) (parts : List (Nat × Value)) : Option Value := (Instr.fill (places[·]?) zero parts).map .agg
def buildR (size : Nat) (zero : Array Value) (parts : List (Nat × Value)) : Option Value := (Instr.fill (fun i => some (i * size, size)) zero parts).map .agg
def bslS (elem size len : Nat) (zero : List Value) (parts : List (Nat × Value)) : Option ((Nat → Value) × Blk) := do
    let cells ← Instr.fill (fun i => some (i * size, size)) (manyA zero len).toArray parts
    some (fun b => .slice (some ⟨b, 0, none⟩) len len, ⟨elem, 0, false, cells.toList⟩)
section
variable {P : Program} {d : Option Tmp} {s : St} {K : Ex → St → Prop}
theorem bindK {α : Type} {r : Option α} {f : α → Option (Ex × St)} : (∃ e s', r.bind f = some (e, s') ∧ K e s') ↔ ∃ v, r = some v ∧ ∃ e s', f v = some (e, s') ∧ K e s' := by
  cases r with
  | none => simp
  | some v => simp
theorem doneK {e0 : Ex} {s0 : St} : (∃ e s', some (e0, s0) = some (e, s') ∧ K e s') ↔ K e0 s0 := by
  constructor
  · rintro ⟨e, s', h, k⟩; cases h; exact k
  · intro k; exact ⟨_, _, rfl, k⟩
theorem WO_run {op : Op} : WO P op d s K ↔ ∃ e s', runOps P (callW P) #[] [{ dst := d, op := op, type := 0, pos := "", after := #[], guard := none }] s = some (e, s') ∧ K e s' := by
  unfold WO
  rw [runOps_of rfl]
  cases doOp P (callW P) { dst := d, op := op, type := 0, pos := "", after := #[], guard := none } s with
  | none => simp
  | some r =>
    obtain ⟨e, s'⟩ := r
    cases e <;> simp [runOps_nil]
theorem WO'_move {x : Operand} : WO P (.move x) d s K ↔ ∃ v, s.ev x = some v ∧ K .normal (s.put d v) := by
  simp only [WO_run, runOps_move, runOps_nil, bindK, doneK]
theorem WO'_assign {x : Operand} : WO P (.assign x) d s K ↔ ∃ v, s.ev x = some v ∧ K .normal (s.put d v) := by
  simp only [WO_run, runOps_assign, runOps_nil, bindK, doneK]
theorem WO'_pick {c x y : Operand} : WO P (.pick c x y) d s K ↔ ∃ b, s.ev c = some b ∧ ∃ v, pickA s.ev x y b = some v ∧ K .normal (s.put d v) := by
  simp only [WO_run, runOps_pick, runOps_nil, bindK, doneK]
theorem WO'_nilCheck {x : Operand} : WO P (.nilCheck x) d s K ↔ ∃ b, s.ev x = some b ∧ ∃ v, nilChkA b = some v ∧ K .normal (s.put d v) := by
  simp only [WO_run, runOps_nilCheck, runOps_nil, bindK, doneK]
theorem WO'_build {t : TypeId} {parts : Array (Nat × Operand)} : WO P (.build t parts) d s K ↔ ∃ l, (parts.toList.mapM fun (p : Nat × Operand) => (s.ev p.2).map (p.1, ·)) = some l ∧ ∃ v, buildA P t l = some v ∧ K .normal (s.put d v) := by
  simp only [WO_run, runOps_build, runOps_nil, bindK, doneK]
theorem WO'_load {t : TypeId} {x : Operand} : WO P (.load t x) d s K ↔ ∃ b, s.ev x = some b ∧ ∃ v, loadA P s.H t b = some v ∧ K .normal (s.put d v) := by
  simp only [WO_run, runOps_load, runOps_nil, bindK, doneK]
theorem WO'_bin {op : BinOp} {t u : TypeId} {x y : Operand} : WO P (.binOp op t x y u) d s K ↔ ∃ a, s.ev x = some a ∧ ∃ b, s.ev y = some b ∧ eqGuardA op x y a b = true ∧ ∃ v, binA P op t a b = some v ∧ K .normal (s.put d v) := by
  simp only [WO_run, runOps_bin, runOps_nil, bindK, doneK]
  constructor
  · rintro ⟨a, ha, b, hb, e, s', h, k⟩
    split at h
    · rename_i hg
      exact ⟨a, ha, b, hb, hg, (bindK.1 ⟨e, s', h, k⟩).imp fun v hv => ⟨hv.1, doneK.1 hv.2⟩⟩
    · cases h
  · rintro ⟨a, ha, b, hb, hg, v, hv, k⟩
    exact ⟨a, ha, b, hb, .normal, _, by rw [if_pos hg, hv]; rfl, k⟩
theorem WO'_un {op : UnOp} {t : TypeId} {x : Operand} : WO P (.unOp op t x) d s K ↔ ∃ b, s.ev x = some b ∧ ∃ v, unA op b = some v ∧ K .normal (s.put d v) := by
  simp only [WO_run, runOps_un, runOps_nil, bindK, doneK]
theorem WO'_convert {a b : TypeId} {x : Operand} : WO P (.convert a b x) d s K ↔ ∃ u, s.ev x = some u ∧ ∃ v, convertA P a b u = some v ∧ K .normal (s.put d v) := by
  simp only [WO_run, runOps_convert, runOps_nil, bindK, doneK]
theorem WO'_iface {t : TypeId} {x : Operand} : WO P (.makeInterface t x) d s K ↔ ∃ u, s.ev x = some u ∧ ∃ v, makeInterfaceA P t u = some v ∧ K .normal (s.put d v) := by
  simp only [WO_run, runOps_iface, runOps_nil, bindK, doneK]
theorem WO'_fieldAddr {t : TypeId} {x : Operand} {i : Nat} : WO P (.fieldAddr t x i) d s K ↔ ∃ u, s.ev x = some u ∧ ∃ v, fieldAddrA P t u i = some v ∧ K .normal (s.put d v) := by
  simp only [WO_run, runOps_fieldAddr, runOps_nil, bindK, doneK]
theorem WO'_field {t : TypeId} {x : Operand} {i : Nat} : WO P (.field t x i) d s K ↔ ∃ u, s.ev x = some u ∧ ∃ v, fieldA P t u i = some v ∧ K .normal (s.put d v) := by
  simp only [WO_run, runOps_field, runOps_nil, bindK, doneK]
theorem WO'_extract {x : Operand} {i : Nat} : WO P (.extract x i) d s K ↔ ∃ u, s.ev x = some u ∧ ∃ v, extractA u i = some v ∧ K .normal (s.put d v) := by
  simp only [WO_run, runOps_extract, runOps_nil, bindK, doneK]
theorem WO'_typeAssert {x : Operand} {a b : TypeId} {k : Bool} : WO P (.typeAssert x a b k) d s K ↔ ∃ u, s.ev x = some u ∧ ∃ v, typeAssertA P u b k = some v ∧ K .normal (s.put d v) := by
  simp only [WO_run, runOps_typeAssert, runOps_nil, bindK, doneK]
theorem WO'_indexAddr {t : TypeId} {x y : Operand} : WO P (.indexAddr t x y) d s K ↔ ∃ u, s.ev x = some u ∧ ∃ i, s.ev y = some i ∧ ∃ v, indexAddrA P t u i = some v ∧ K .normal (s.put d v) := by
  simp only [WO_run, runOps_indexAddr, runOps_nil, bindK, doneK]
theorem WO'_index {t : TypeId} {x y : Operand} : WO P (.index t x y) d s K ↔ ∃ u, s.ev x = some u ∧ ∃ i, s.ev y = some i ∧ ∃ v, indexA P t u i = some v ∧ K .normal (s.put d v) := by
  simp only [WO_run, runOps_index, runOps_nil, bindK, doneK]
theorem WO'_makeFunc {g : Fn} {a b : Array Operand} : WO P (.makeFunc g a b) d s K ↔ ∃ x, a.toList.mapM s.ev = some x ∧ ∃ y, b.toList.mapM s.ev = some y ∧ K .normal (s.put d (.func g x.toArray y.toArray)) := by
  simp only [WO_run, runOps_makeFunc, runOps_nil, bindK, doneK]
theorem WO'_slice {t : TypeId} {x : Operand} {lo hi mx : Option Operand} : WO P (.slice t x lo hi mx) d s K ↔ ∃ u, s.ev x = some u ∧ ∃ l, lo.mapM s.ev = some l ∧ ∃ h, hi.mapM s.ev = some h ∧ ∃ m, mx.mapM s.ev = some m ∧ ∃ v, sliceA P s.H t u l h m = some v ∧ K .normal (s.put d v) := by
  simp only [WO_run, runOps_slice, runOps_nil, bindK, doneK]
theorem WO'_store {t : TypeId} {x y : Operand} : WO P (.store t x y) d s K ↔ ∃ a, s.ev x = some a ∧ ∃ v, s.ev y = some v ∧ ∃ H, storeA P s.H t a v = some H ∧ K .normal ((setH s H).put d undef) := by
  simp only [WO_run, runOps_store, runOps_nil, bindK, doneK]
theorem WO'_builtin {b : Builtin} {args : Array Operand} {ts : Array TypeId} : WO P (.call { callee := .builtin b, args := args, argTypes := ts }) d s K ↔ ∃ l, args.toList.mapM s.ev = some l ∧ ∃ r, builtinA P b ts l s.H = some r ∧ K .normal ((setH s r.2).put d r.1) := by
  simp only [WO_run, runOps_builtin, runOps_nil, bindK, doneK]
theorem WO'_alloc {t : TypeId} : WO P (.alloc t) d s K ↔ ∃ z, zeroA P t = some z ∧ K .normal ((setH s (s.H.alloc ⟨t, 0, false, z.cells.toList⟩)).put d (.pointer (some ⟨s.H.next, 0, none⟩))) := by
  simp only [WO_run, runOps_alloc, runOps_nil, bindK, doneK]
theorem WO'_box {t : TypeId} {x : Operand} : WO P (.box t x) d s K ↔ ∃ z, s.ev x = some z ∧ K .normal ((setH s (s.H.alloc ⟨t, 0, false, z.cells.toList⟩)).put d (.pointer (some ⟨s.H.next, 0, none⟩))) := by
  simp only [WO_run, runOps_box, runOps_nil, bindK, doneK]
theorem WO'_buildSlice {t : TypeId} {n : Nat} {parts : Array (Nat × Operand)} : WO P (.buildSlice t n parts) d s K ↔ ∃ l, (parts.toList.mapM fun (p : Nat × Operand) => (s.ev p.2).map (p.1, ·)) = some l ∧ ∃ r, buildSliceA P t n l = some r ∧ K .normal ((setH s (s.H.alloc r.2)).put d (r.1 s.H.next)) := by
  simp only [WO_run, runOps_buildSlice, runOps_nil, bindK, doneK]
theorem WO'_makeSlice {t : TypeId} {l c : Operand} : WO P (.makeSlice t l c) d s K ↔ ∃ x, s.ev l = some x ∧ ∃ y, s.ev c = some y ∧ ∃ r, makeSliceA P t x y = some r ∧ K .normal ((setH s (s.H.alloc r.2)).put d (r.1 s.H.next)) := by
  simp only [WO_run, runOps_makeSlice, runOps_nil, bindK, doneK]
def backW (d : Option Tmp) (s : St) (K : Ex → St → Prop) : CR → Heap → Prop
  | .ret v, H => K .normal ((setH s H).put d v)
  | .pan v, H => K (.panic v) (setH s H)
@[simp] theorem backW_ret (d : Option Tmp) (s : St) (K : Ex → St → Prop) (v : Value) (H : Heap) : backW d s K (.ret v) H = K .normal ((setH s H).put d v) := rfl
@[simp] theorem backW_pan (d : Option Tmp) (s : St) (K : Ex → St → Prop) (v : Value) (H : Heap) : backW d s K (.pan v) H = K (.panic v) (setH s H) := rfl
theorem WO'_call {x : Operand} {args : Array Operand} {ts : Array TypeId} : WO P (.call { callee := .value x, args := args, argTypes := ts }) d s K ↔ ∃ f, s.ev x = some f ∧ ∃ l, args.toList.mapM s.ev = some l ∧ ∃ t, targetA f l = some t ∧ CW P t.1 t.2 s.H (backW d s K) := by
  simp only [WO_run, runOps_call, runOps_nil, bindK]
  constructor
  · rintro ⟨f, hf, l, hl, t, ht, r, hr, e, s', h, k⟩
    refine ⟨f, hf, l, hl, t, ht, r.1, r.2, hr, ?_⟩
    obtain ⟨r, H⟩ := r
    cases r with
    | ret v => cases h; exact k
    | pan v => cases h; exact k
  · rintro ⟨f, hf, l, hl, t, ht, r, H, hr, k⟩
    refine ⟨f, hf, l, hl, t, ht, (r, H), hr, ?_⟩
    cases r with
    | ret v => exact ⟨_, _, rfl, k⟩
    | pan v => exact ⟨_, _, rfl, k⟩
theorem WO'_defer {x : Operand} {args : Array Operand} {ts : Array TypeId} : WO P (.defer { callee := .value x, args := args, argTypes := ts }) d s K ↔ ∃ f, s.ev x = some f ∧ ∃ l, args.toList.mapM s.ev = some l ∧ ∃ t, deferA l f = some t ∧ K .normal ((addD s t).put d undef) := by
  simp only [WO_run, runOps_defer, runOps_nil, bindK, doneK]
theorem WO'_panic {x : Operand} : WO P (.panic x) d s K ↔ ∃ u, s.ev x = some u ∧ ∃ v, panicA u = some v ∧ K (.panic v) s := by
  simp only [WO_run, runOps_panic, bindK, doneK]
end
end Go.Am
