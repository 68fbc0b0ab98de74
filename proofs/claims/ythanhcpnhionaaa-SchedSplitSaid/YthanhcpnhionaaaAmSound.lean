/- Every run of the abstract machine stands for the world's: 'am_sound'. Conditions: those of each theorem: the program follows 'mixedOrders'; no function bears the one name that the model steps over. -/
import Derived.Test.YthanhcpnhionaaaAmDrawE
set_option linter.all false
set_option linter.unusedSimpArgs false
set_option linter.unusedVariables false
namespace Go.Am
open Go.RowKit

section
variable {P : Program} {cl : Cl} {ops : Array Oper} {b : Array Nat} {r0 : Nat} {T : Nat → DS} {N : Nat} {β0 : Ren} {X : XF} {base : Nat} {w0 : World}

/- the set that a list of marks is -/
def setOf (l : Array Bool) : Nat → Bool := fun j => l.getD j false

/- how many are not marked -/
def cnt (n : Nat) (l : Array Bool) : Nat := ((List.range n).filter fun j => !l.getD j true).length

theorem cnt_set {n i : Nat} {l : Array Bool} (hl : l.size = n) (hi : i < n) (h : l.getD i true = false) : cnt n l = cnt n (l.setIfInBounds i true) + 1 := by
  have key : ∀ (m : Nat), m ≤ n → ((List.range m).filter fun j => !l.getD j true).length = ((List.range m).filter fun j => !(l.setIfInBounds i true).getD j true).length + (if i < m then 1 else 0) := by
    intro m
    induction m with
    | zero => intro _; simp
    | succ m ih =>
      intro hm
      have ih := ih (by omega)
      rw [List.range_succ, List.filter_append, List.filter_append, List.length_append, List.length_append, ih]
      by_cases e : m = i
      · subst e
        have e1 : ((l.setIfInBounds m true).getD m true) = true := by simp [Array.getD_eq_getD_getElem?, hl, hi]
        have e2 : (List.filter (fun j => !l.getD j true) [m]).length = 1 := by rw [List.filter_cons, h]; rfl
        have e3 : (List.filter (fun j => !(l.setIfInBounds m true).getD j true) [m]).length = 0 := by rw [List.filter_cons, e1]; rfl
        rw [e2, e3, if_neg (by omega), if_pos (by omega)]
      · have e1 : ((l.setIfInBounds i true).getD m true) = l.getD m true := getD_set_ne true (Ne.symm e)
        have e2 : List.filter (fun j => !(l.setIfInBounds i true).getD j true) [m] = List.filter (fun j => !l.getD j true) [m] := by simp only [List.filter_cons, e1, List.filter_nil]
        rw [e2]
        by_cases h2 : i < m
        · rw [if_pos h2, if_pos (by omega)]; omega
        · rw [if_neg h2, if_neg (by omega)]; omega
  have := key n (Nat.le_refl _)
  rw [if_pos hi] at this
  exact this

theorem cnt_zero {n : Nat} {l : Array Bool} (hl : l.size = n) (h : cnt n l = 0) : ∀ j, j < n → l.getD j false = true := by
  intro j hj
  have h1 : ((List.range n).filter fun j => !l.getD j true) = [] := List.length_eq_zero_iff.1 h
  have h2 := List.filter_eq_nil_iff.1 h1 j (List.mem_range.2 hj)
  have hj' : j < l.size := by omega
  simp [hj'] at h2 ⊢
  exact h2

theorem setOf_set {l : Array Bool} {i : Nat} (hi : i < l.size) : setOf (l.setIfInBounds i true) = plus (setOf l) i := by
  funext j
  unfold setOf plus
  by_cases e : j = i
  · subst e; simp [hi]
  · rw [if_neg e]; exact getD_set_ne false (Ne.symm e)

theorem ready_empty (ok : OkD ops b) {l : Array Bool} (hl : l.size = ops.size) (h : Region.ready .any ops l = []) : ∀ j, j < ops.size → l.getD j false = true := by
  intro j
  induction j using Nat.strongRecOn with
  | _ j ih =>
    intro hj
    have hjl : j < l.size := by omega
    cases hg : l.getD j false with
    | true => rfl
    | false =>
      have : j ∈ Region.ready .any ops l := by
        rw [mem_ready]
        refine ⟨?_, ops[j], op_at hj, fun e he hb => ih e.on (ok.back j hj e he hb) (by have := ok.back j hj e he hb; omega)⟩
        simp [hjl] at hg ⊢
        exact hg
      rw [h] at this
      cases this

theorem any_sound (hN : NameOk P) (hcl : SoundK P cl) (hr0 : base0 ≤ r0) (ok : OkD ops b) (ht : Tra P cl ops b r0 T N) {Q : Exit → Act → World → Prop}
    (hQ : ∀ (D : Nat → Bool) a w β s, (∀ j, j < ops.size → D j = true) → Inv P ops b r0 T N β0 X base w0 D a w β s → Q .normal a w) :
    ∀ (fuel : Nat) (l : Array Bool) (a : Act) (w : World), l.size = ops.size → Closed ops (setOf l) → cnt ops.size l ≤ fuel → (∃ β s, Inv P ops b r0 T N β0 X base w0 (setOf l) a w β s) →
      wpAny P .any ops Q fuel l a w := by
  intro fuel
  induction fuel with
  | zero =>
    intro l a w hl hc hn ⟨β, s, hinv⟩
    have hall := cnt_zero hl (by omega)
    refine ⟨?_, hQ _ a w β s hall hinv⟩
    cases hr : Region.ready .any ops l with
    | nil => rfl
    | cons j rest =>
      have hj : j ∈ Region.ready .any ops l := by rw [hr]; simp
      obtain ⟨h1, o, ho, _⟩ := mem_ready.1 hj
      have hjs : j < ops.size := by
        rcases Nat.lt_or_ge j ops.size with k | k
        · exact k
        · rw [Array.getElem?_eq_none k] at ho; cases ho
      have h2 := hall j hjs
      have hjl : j < l.size := by omega
      simp [hjl] at h1 h2
      rw [h1] at h2; cases h2
  | succ fuel ih =>
    intro l a w hl hc hn hinv
    refine ⟨fun hr => ?_, fun i hi => ?_⟩
    · obtain ⟨β, s, hinv⟩ := hinv
      exact hQ _ a w β s (ready_empty ok hl hr) hinv
    · obtain ⟨h1, o, ho, hed⟩ := mem_ready.1 hi
      have his : i < ops.size := by
        rcases Nat.lt_or_ge i ops.size with k | k
        · exact k
        · rw [Array.getElem?_eq_none k] at ho; cases ho
      rw [op_at his] at ho
      cases ho
      have hil : i < l.size := by omega
      have hno : setOf l i = false := by simp [setOf, hil] at h1 ⊢; exact h1
      have hrdy : Rdy ops b (setOf l) i := ⟨ok, hc, his, hno, hed⟩
      have hDn : setOf l ops.size = false := by simp [setOf, hl]
      refine wpOp_mono (fun a' w' hinv' => ?_) (inv_step hN hcl hr0 hrdy ht hDn hinv)
      refine ih (l.setIfInBounds i true) a' w' (by simp [hl]) ?_ ?_ ?_
      · rw [setOf_set hil]
        intro j hj hD e he hb
        by_cases e1 : j = i
        · subst e1
          have := hed e he hb
          show plus (setOf l) j e.on = true
          unfold plus
          split
          · rfl
          · exact this
        · have hD' : setOf l j = true := by simpa [plus, e1] using hD
          have := hc j hj hD' e he hb
          show plus (setOf l) i e.on = true
          unfold plus
          split
          · rfl
          · exact this
      · have := cnt_set hl his h1
        omega
      · rw [setOf_set hil]; exact hinv'

/- with all operations done -/
theorem cur_all {D : Nat → Bool} (hD : ∀ j, j < ops.size → D j = true) (t : Tmp) : ∀ k, k ≤ ops.size → cur ops T D k t = cur ops T (fun _ => true) k t
  | 0, _ => rfl
  | k + 1, hk => by simp only [cur, hD k (by omega), cur_all hD t k (by omega)]

theorem mOf_all {D : Nat → Bool} (hD : ∀ j, j < ops.size → D j = true) : ∀ k, k ≤ ops.size → mOf ops T D k = mOf ops T (fun _ => true) k
  | 0, _ => rfl
  | k + 1, hk => by simp only [mOf, hD k (by omega), mOf_all hD k (by omega)]

theorem FR.slots {β : Ren} {s s2 : St} {a : Act} (h : FR β s a) (hn : s2.n = s.n) (hs : ∀ t, s2.slot t = s.slot t) (hf : ∀ t, s.n ≤ t → s2.f.get t = none) : FR β s2 a :=
  ⟨by rw [hn]; exact h.1, fun t ht => by rw [hs]; exact h.2.1 t (by rw [← hn]; exact ht), fun t ht => hf t (by rw [← hn]; exact ht)⟩

/- the next number may be lowered where nothing bears what is above -/
theorem HR.lower {β : Ren} {H H' : Heap} {X : XF} {base : Nat} {w : World} (h : HR β H X base w) (_e : H'.old = H.old) (eg : ∀ i, H'.get i = H.get i) (hb : base0 ≤ H'.next) (hf : ∀ i, H'.next ≤ i → β i = .un)
    (hx : ∀ i x, X i = some x → i < H'.next) : HR β H' X base w :=
  ⟨hb, hf, fun i x hi => (eg i).trans (h.disj i x hi), hx, h.res, fun i x hi => h.blk i x (by simpa [getX, eg] using hi), fun i T hT => by obtain ⟨x, hx⟩ := h.live i T hT; exact ⟨x, by simpa [getX, eg] using hx⟩, h.inj, h.sz⟩

theorem regionD_sound (hM : P.follows .mixedOrders = true) (hN : NameOk P) : ∀ cl, SoundK P cl → SoundD P cl := by
  intro cl hcl id ops s e s' h β X base a w hs
  unfold regionD at h
  split at h
  case isFalse => cases h
  rename_i hok
  have ok := okD_spec hok
  generalize Region.before ops = b at h ok
  obtain ⟨y, hy, h1⟩ := bind_some h
  have hres : e = .normal ∧ ((calmD ops = true ∧ s' = { y.s with H := s.H }) ∨ s' = { y.s with H := layA s.H.next y.s.H y.A }) := by
    dsimp only at h1
    split at h1
    · rename_i hc; cases h1; exact ⟨rfl, .inl ⟨hc, rfl⟩⟩
    · cases h1; exact ⟨rfl, .inr rfl⟩
  obtain ⟨rfl, hres⟩ := hres
  obtain ⟨T, t1, t2, t3⟩ := runD_trace ops.toList 0 _ y (by simp) hy
  have t2' : T ops.size = y := by simpa using t2
  have hr0 : base0 ≤ s.H.next := hs.hr.next
  have ht : Tra P cl ops b s.H.next T s.n :=
    ⟨fun j o ho => stepK (t3 j o (Nat.zero_le _) ho), by rw [t1], fun t htn => by rw [t1]; exact hs.fr.2.2 t htn, by rw [t1], by rw [t1], by rw [t1], by rw [t1]⟩
  refine wp_region_any hM ?_
  have hm0 : ∀ k, mOf ops T (setOf (Array.replicate ops.size false)) k = 0 := by
    intro k
    induction k with
    | zero => rfl
    | succ k ih =>
      simp only [mOf, ih]
      rw [if_neg]
      rintro ⟨h, _⟩
      simp [setOf, Array.getElem?_replicate] at h
      split at h <;> simp at h
  have hfalse : ∀ k, setOf (Array.replicate ops.size false) k = false := by
    intro k
    simp only [setOf, Array.getD_eq_getD_getElem?, Array.getElem?_replicate]
    split <;> rfl
  have hc0 : ∀ t k, cur ops T (setOf (Array.replicate ops.size false)) k t = (T 0).s.slot t := by
    intro t k
    induction k with
    | zero => rfl
    | succ k ih => simp only [cur, ih, hfalse]; simp
  refine any_sound (β0 := β) (X := X) (base := base) (w0 := w) hN hcl hr0 ok ht ?_ ops.size _ a _ (by simp) (fun j hj hD => by rw [hfalse] at hD; cases hD) ?_ ?_
  · -- the end
    intro D a2 w2 β2 s2 hD hinv
    have hcl2 : Closed ops D := fun j hj _ e he hb => hD e.on (by have := ok.back j hj e he hb; omega)
    have hm := mOf_all (T := T) hD ops.size (Nat.le_refl _)
    have hat := ht.atM (i := ops.size) (Nat.le_refl _)
    rw [← hm] at hat
    have hpend : ∀ p ∈ (T ops.size).A, Pend P ops T b D (mOf ops T D ops.size) p := by
      rintro ⟨j, x⟩ hpx
      obtain ⟨q1, q2, q3, q4⟩ := (ht.mem_A ok ops.size (Nat.le_refl _) j x).1 hpx
      have := mOf_le (ops := ops) (T := T) D ops.size
      exact ⟨q1, hD j q1, q2, q3, fun c hc hch => q4 c (by omega) hch⟩
    have hlay := hinv.hr.lay hr0 _ hpend
    rw [← hat.1] at hlay
    have hfin : SR β2 X base { y.s with H := layA s.H.next y.s.H y.A } a2 w2 := by
     refine ⟨?_, ?_, ?_⟩
     · have hTn := ht.n ops.size (Nat.le_refl _)
       refine hinv.fr.slots ?_ ?_ ?_
       · show y.s.n = s2.n
         rw [← t2', hTn.1, hinv.sn]
       · intro t
         show y.s.slot t = s2.slot t
         rw [← t2', hinv.sl, cur_all hD t ops.size (Nat.le_refl _), ht.cur ops.size (Nat.le_refl _) t]
       · intro t htn
         show y.s.f.get t = none
         rw [← t2']; exact hTn.2 t (by rw [← hinv.sn]; exact htn)
     · show DL β2 y.s.d a2.defers
       rw [← t2', hat.2]; exact hinv.df
     · show HR β2 (layA s.H.next y.s.H y.A) X base w2
       rw [← t2']
       have hXn : ∀ id, s.H.next ≤ id → X id = none := fun id hid => hs.hr.xnext hid
       refine hlay.congr ?_ (Nat.le_refl _) hlay.fresh ?_ ?_
       · intro id
         by_cases hrng : s.H.next ≤ id ∧ id < s.H.next + (ops.size + 1)
         · have e1 : (XM s.H.next (XD P ops T b s.H.next X D (mOf ops T D ops.size)) (T ops.size).A id).join = none := by
             by_cases hk : ∃ p ∈ (T ops.size).A, s.H.next + p.1 = id
             · obtain ⟨p, hp, rfl⟩ := hk
               rw [XM_key hp]; rfl
             · rw [XM_other (fun p hp e => hk ⟨p, hp, e⟩)]
               unfold XD
               rw [if_pos hrng]
               split
               · rename_i hpn
                 split
                 · rfl
                 · rename_i hmg
                   exfalso
                   obtain ⟨j, rfl⟩ : ∃ j, id = s.H.next + j := ⟨id - s.H.next, by omega⟩
                   simp only [Nat.add_sub_cancel_left] at hpn hmg
                   have hjn : j < ops.size := by
                     by_cases e : j < ops.size
                     · exact e
                     · have hal := hpn.2
                       unfold alB at hal
                       rw [Array.getElem?_eq_none (by omega)] at hal
                       cases hal
                   have hbo : ∃ x, blkO P ops T j = some x := by
                     have hal := hpn.2
                     unfold alB at hal
                     rw [op_at hjn] at hal
                     simp only [Bool.and_eq_true, beq_iff_eq] at hal
                     cases ht.step j _ (op_at hjn) with
                     | all hw2 hk2 r2 h2 hy2 => exact ⟨r2.2, by simp [blkO, op_at hjn, h2]⟩
                     | dis hw2 hy2 => rw [hw2] at hal; cases hal.1
                     | qui hw2 hk2 => rw [hk2] at hal; cases hal.2
                     | rea hw2 hk2 => rw [hk2] at hal; cases hal.2
                     | cha hw2 hk2 => rw [hk2] at hal; cases hal.2
                   obtain ⟨x, hx⟩ := hbo
                   refine hk ⟨(j, x), (ht.mem_A ok ops.size (Nat.le_refl _) j x).2 ⟨hjn, hpn.2, hx, fun c hc hcc => ?_⟩, rfl⟩
                   have hcm := (mOf_spec (ops := ops) (T := T) D ops.size).2 c hc (hD c hc) hcc
                   cases hac : ancA b c j with
                   | false => rfl
                   | true =>
                     refine absurd (List.any_eq_true.2 ⟨c, by simpa using hcm, ?_⟩) hmg
                     simp [hcc, hac]
               · rfl
           simp only [getX, e1, hXn id hrng.1]
           rfl
         · have e1 : XM s.H.next (XD P ops T b s.H.next X D (mOf ops T D ops.size)) (T ops.size).A id = X id := by
             rw [XM_other (fun p hp e => hrng (by have := (hpend p hp).lt; omega))]
             unfold XD
             rw [if_neg hrng]
           simp only [getX, e1]
       · intro id x hx
         have hrng : ¬ (s.H.next ≤ id ∧ id < s.H.next + (ops.size + 1)) := fun hr => by rw [hXn id hr.1] at hx; cases hx
         have e1 : XM s.H.next (XD P ops T b s.H.next X D (mOf ops T D ops.size)) (T ops.size).A id = X id := by
           rw [XM_other (fun p hp e => hrng (by have := (hpend p hp).lt; omega))]
           unfold XD
           rw [if_neg hrng]
         rw [← e1] at hx
         exact ⟨hlay.disj id x hx, hlay.xlt id x hx⟩
       · intro id hx
         have hrng : ¬ (s.H.next ≤ id ∧ id < s.H.next + (ops.size + 1)) := fun hr => by rw [hXn id hr.1] at hx; cases hx
         have e1 : XM s.H.next (XD P ops T b s.H.next X D (mOf ops T D ops.size)) (T ops.size).A id = X id := by
           rw [XM_other (fun p hp e => hrng (by have := (hpend p hp).lt; omega))]
           unfold XD
           rw [if_neg hrng]
         rw [← e1] at hx
         exact hlay.res id hx
    rcases hres with ⟨hcalm, rfl⟩ | rfl
    · -- it only read
      have hkd : ∀ j (hj : j < ops.size), kdA ops[j] = .quiet ∨ kdA ops[j] = .read := by
        intro j hj
        have := List.all_eq_true.1 hcalm ops[j] (by simp)
        simpa using this
      have hch : ∀ j, chB ops T j = false := by
        intro j
        unfold chB
        by_cases hj : j < ops.size
        · rw [op_at hj]; rcases hkd j hj with k | k <;> simp [k]
        · rw [Array.getElem?_eq_none (by omega)]
      have hal : ∀ j, alB ops T j = false := by
        intro j
        unfold alB
        by_cases hj : j < ops.size
        · rw [op_at hj]; rcases hkd j hj with k | k <;> simp [k]
        · rw [Array.getElem?_eq_none (by omega)]
      have hm0' : mOf ops T D ops.size = 0 := by
        rcases (mOf_spec (ops := ops) (T := T) D ops.size).1 with h0 | ⟨j, _, _, _, hc⟩
        · exact h0
        · rw [hch j] at hc; cases hc
      have hA : y.A = [] := by
        rw [← t2']
        cases hA : (T ops.size).A with
        | nil => rfl
        | cons p rest =>
          obtain ⟨j, x⟩ := p
          have := (ht.mem_A ok ops.size (Nat.le_refl _) j x).1 (by rw [hA]; simp)
          rw [hal j] at this; cases this.2.1
      have hH : y.s.H = { s.H with next := s.H.next + ops.size + 1 } := by rw [← t2', hat.1, hm0', t1]
      rw [hA, hH] at hfin
      refine ⟨β2, hinv.le, .normal, ⟨hfin.fr, hfin.df, ?_⟩, hinv.bl⟩
      have hr2 := hfin.hr
      refine hr2.lower rfl (fun id => rfl) hs.hr.next (fun id hid => ?_) (fun id x hx => hs.hr.xlt id x hx)
      have hr3 := hinv.hr
      rw [hm0', t1] at hr3
      by_cases hrng : id < s.H.next + (ops.size + 1)
      · refine hr3.res id ?_
        unfold XD
        have hid' : s.H.next ≤ id := hid
        rw [if_pos ⟨hid', hrng⟩, if_neg]
        rw [hal]; simp
      · exact hr3.fresh id (by show s.H.next + ops.size + 1 ≤ id; omega)
    · exact ⟨β2, hinv.le, .normal, hfin, hinv.bl⟩
  · unfold cnt
    exact Nat.le_trans (List.length_filter_le _ _) (by simp)
  · -- the start
    refine ⟨β, (T 0).s, Le.refl β, ?_, by rw [t1], fun t => (hc0 t _).symm, ?_, ?_, (Below.refl base w).drew⟩
    · rw [t1]; exact hs.fr
    · rw [hm0, t1]; exact hs.df
    · rw [hm0, t1]
      have hb := hs.hr.drew
      refine hb.congr ?_ (by show s.H.next ≤ s.H.next + ops.size + 1; omega) (fun id hid => hb.fresh id (by have : s.H.next + ops.size + 1 ≤ id := hid; omega)) ?_ ?_
      · intro id
        have e0 : ({ s.H with next := s.H.next + ops.size + 1 } : Heap).get id = s.H.get id := rfl
        by_cases hrng : s.H.next ≤ id ∧ id < s.H.next + (ops.size + 1)
        · have e1 : XD P ops T b s.H.next X (setOf (Array.replicate ops.size false)) 0 id = some none := by
            unfold XD
            rw [if_pos hrng, if_neg]
            rw [hfalse]; simp
          simp only [getX, e0, e1, hb.xnext hrng.1]
          rfl
        · have e1 : XD P ops T b s.H.next X (setOf (Array.replicate ops.size false)) 0 id = X id := by
            unfold XD
            rw [if_neg hrng]
          simp only [getX, e0, e1]
      · intro id x hx
        show s.H.get id = none ∧ id < s.H.next + ops.size + 1
        by_cases hrng : s.H.next ≤ id ∧ id < s.H.next + (ops.size + 1)
        · refine ⟨?_, by omega⟩
          cases hg : s.H.get id with
          | none => rfl
          | some q =>
            obtain ⟨U, hU, _⟩ := hb.mem hg
            rw [hb.fresh id hrng.1] at hU; cases hU
        · have e1 : XD P ops T b s.H.next X (setOf (Array.replicate ops.size false)) 0 id = X id := by
            unfold XD
            rw [if_neg hrng]
          rw [e1] at hx
          have := hb.xlt id x hx
          exact ⟨hb.disj id x hx, by omega⟩
      · intro id hx
        by_cases hrng : s.H.next ≤ id ∧ id < s.H.next + (ops.size + 1)
        · exact hb.fresh id hrng.1
        · have e1 : XD P ops T b s.H.next X (setOf (Array.replicate ops.size false)) 0 id = X id := by
            unfold XD
            rw [if_neg hrng]
          rw [e1] at hx
          exact hb.res id hx

/- EVERY RUN OF A CALL -/
theorem am_sound (hM : P.follows .mixedOrders = true) (hN : NameOk P) {k : Nat} {f : FuncId} {args : Array Value} {H H' : Heap} {r : CR} (h : call P k f args H = some (r, H')) {β : Ren} {X : XF} {base : Nat} {w : World}
    {args' : Array Value} (ha : LR β args.toList args'.toList) (hr : HR β H X base w) : Calls P f args' w (CPost β X base w r H') :=
  ((lvl_sound hN (regionD_sound hM hN) k).2 f args H r H' h).2 β X base w args' ha hr

end
#print axioms am_sound
end Go.Am
