/- Drawing regions of the abstract machine stand for the world's: each step, and the whole. Conditions: those of each theorem. -/
import Derived.Test.YthanhcpnhionaaaAmDrawD
set_option linter.all false
set_option linter.unusedSimpArgs false
set_option linter.unusedVariables false
namespace Go.Am
open Go.RowKit

section
variable {P : Program} {cl : Cl} {ops : Array Oper} {b : Array Nat} {r0 : Nat} {T : Nat → DS} {N : Nat} {β0 : Ren} {X : XF} {base : Nat} {w0 : World} {D : Nat → Bool} {a : Act} {w : World} {i : Nat}

theorem wpOp_wanted {o : Oper} {K : Act → World → Prop} {Q : Exit → Act → World → Prop} {i : Nat} (ho : ops[i]? = some o) (hw : Region.wanted o (yielded ops a.tmps) = true) (h : o.wp P a w K Q) : wpOp P ops Q i K a w := by
  unfold wpOp
  simp only [ho, hw, if_true]
  exact .inl h

theorem wpOp_not {o : Oper} {K : Act → World → Prop} {Q : Exit → Act → World → Prop} {i : Nat} (ho : ops[i]? = some o) (hw : Region.wanted o (yielded ops a.tmps) = false) (h : K (a.put o.dst undef) w) : wpOp P ops Q i K a w := by
  unfold wpOp
  simp only [ho, hw, Bool.false_eq_true, if_false]
  exact h

theorem RR.wp {o : Oper} {β : Ren} {H H' : Heap} {v : Value} (h : RR P o a β H H' X base w (.val v)) {K : Act → World → Prop} {Q : Exit → Act → World → Prop}
    (hK : ∀ β' v' w', Le β β' → VR β' v v' → HR β' H' X base w' → Below base w w' → K (a.put o.dst v') w') : o.wp P a w K Q := by
  obtain ⟨β', v', w', hrun, l, vr, hr', b⟩ := h
  unfold Oper.wp
  have := hK β' v' w' l vr hr' b
  rcases hrun with hrun | ⟨hrun, rfl⟩
  · rw [hrun]; exact this
  · rw [hrun]; exact this

/- a step that changes slots alone -/
theorem Inv.slots {β β' : Ren} {s : St} (hinv : Inv P ops b r0 T N β0 X base w0 D a w β s) (h : Rdy ops b D i) (ht : Tra P cl ops b r0 T N) (hch : chB ops T i = false) {v v' : Value} {w' : World} {x : St}
    (hx : (T (i + 1)).s = x.put (ops[i]'h.hi).dst v) (hxn : x.n = N) (l : Le β β') (vr : VR β' v v')
    (hr' : HR β' (T (mOf ops T D ops.size)).s.H (XD P ops T b r0 X (plus D i) (mOf ops T D ops.size)) base w') (b' : Below base w w') :
    Inv P ops b r0 T N β0 X base w0 (plus D i) (a.put (ops[i]'h.hi).dst v') w' β' (s.put (ops[i]'h.hi).dst v) := by
  have hm : mOf ops T (plus D i) ops.size = mOf ops T D ops.size := plusOther hch _
  refine ⟨hinv.le.trans l, (hinv.fr.mono l).put vr _, by simp [hinv.sn], ?_, ?_, ?_, hinv.bl.trans b'⟩
  · exact slots_step h ht hinv.sn hinv.sl (fun t hn => hinv.fr.2.2 t (by rw [hinv.sn]; exact hn)) hx hxn s rfl rfl
  · rw [hm]; simpa using hinv.df.mono l
  · rw [hm]; exact hr'

theorem inv_step (hN : NameOk P) (hcl : SoundK P cl) (hr0 : base0 ≤ r0) (h : Rdy ops b D i) (ht : Tra P cl ops b r0 T N) (hDn : D ops.size = false)
    (hinv : ∃ β s, Inv P ops b r0 T N β0 X base w0 D a w β s) {Q : Exit → Act → World → Prop} :
    wpOp P ops Q i (fun a' w' => ∃ β s, Inv P ops b r0 T N β0 X base w0 (plus D i) a' w' β s) a w := by
  obtain ⟨β, s, hinv⟩ := hinv
  have hi := h.hi
  have hsl : ∀ t ∈ (ops[i]).looksAt ops, s.slot t = (T i).s.slot t := fun t hl => (hinv.sl t).trans (h.slot ht hl)
  have hwan : Region.wanted ops[i] (yielded ops a.tmps) = wantedA ops[i] ops (T i).s := by rw [← wanted_rel hinv.fr]; exact wanted_congr hsl
  have hev := ev_congr hsl
  have hTn := (ht.n i (by omega)).1
  have hp : ops[i]? = some ops[i] := op_at hi
  have hxn : r0 + ops.size < (T (mOf ops T D ops.size)).s.H.next := hinv.hr.xlt (r0 + ops.size) none (by simp [XD, hDn])
  have hst := ht.step i _ hp
  cases hst with
  | dis hw hy =>
    refine wpOp_not hp (hwan.trans hw) ⟨β, _, hinv.slots h ht (by simp [chB, hp, hw]) (v := undef) (x := (T i).s) (by rw [hy]) hTn (Le.refl β) (.undef β) ?_ (Below.refl _ _)⟩
    rw [XD_same (by simp [alB, hp, hw])]
    exact hinv.hr
  | qui hw hk v H1 hop hy =>
    refine wpOp_wanted hp (hwan.trans hw) ?_
    have h1 := (quiet_indep hk hop).2 (T (mOf ops T D ops.size)).s.H
    rw [opA_congr ops[i] _ (fun x hx => (hev x hx).symm)] at h1
    refine (opA_sound hinv.fr.ev hinv.hr h1).wp fun β' v' w' l vr hr' b' => ?_
    refine ⟨β', _, hinv.slots h ht (by simp [chB, hp, hk]) (x := (T i).s) (by rw [hy]) hTn l vr ?_ b'⟩
    rw [XD_same (by simp [alB, hp, hk])]
    exact hr'
  | all hw hk r hal hy =>
    refine wpOp_wanted hp (hwan.trans hw) ?_
    rw [allocA_congr (P := P) ops[i].op (fun x hx => (hev x hx).symm)] at hal
    have hbl : blkO P ops T i = some r.2 := by
      have hal' := hal
      rw [allocA_congr (P := P) ops[i].op hev] at hal'
      simp [blkO, hp, hal']
    have hxi : XD P ops T b r0 X D (mOf ops T D ops.size) (r0 + i) = some none := by
      simp only [XD, Nat.add_sub_cancel_left]
      rw [if_pos ⟨by omega, by omega⟩, if_neg]
      rw [h.no]; simp
    have hxi' : XD P ops T b r0 X (plus D i) (mOf ops T D ops.size) (r0 + i) = some (some r.2) := by
      simp only [XD, Nat.add_sub_cancel_left]
      rw [if_pos ⟨by omega, by omega⟩, if_pos ⟨by simp [plus], by simp [alB, hp, hk, hw]⟩, if_neg, hbl]
      simp only [List.any_eq_true, List.mem_range, Bool.and_eq_true, not_exists, not_and]
      intro c hc hch
      have hDc := mOf_in h.ok ht h.cl hc hch
      have hcs : c < ops.size := Nat.lt_of_lt_of_le hc (mOf_le _ _)
      simp [(h.not hcs hDc).2]
    have hxo : ∀ j, j ≠ r0 + i → XD P ops T b r0 X (plus D i) (mOf ops T D ops.size) j = XD P ops T b r0 X D (mOf ops T D ops.size) j := by
      intro j hj
      unfold XD
      by_cases hrng : r0 ≤ j ∧ j < r0 + (ops.size + 1)
      · have : j - r0 ≠ i := by omega
        simp [plus, this]
      · simp [hrng]
    obtain ⟨β', v', w', hrun, l, vr, hr', b'⟩ := allocA_sound hinv.fr.ev hinv.hr hal (r0 + i) (T (mOf ops T D ops.size)).s.H (XD P ops T b r0 X (plus D i) (mOf ops T D ops.size))
      ⟨by omega, hinv.hr.res _ hxi, hinv.hr.xlt _ _ hxi, Nat.le_refl _, fun j => by
          by_cases e : j = r0 + i
          · rw [if_pos e, e]; simp only [getX, hxi', hinv.hr.disj _ _ hxi]; rfl
          · rw [if_neg e]; simp only [getX, hxo j e],
        fun j q hq => by
          by_cases e : j = r0 + i
          · rw [e]; exact ⟨hinv.hr.disj _ _ hxi, hinv.hr.xlt _ _ hxi⟩
          · rw [hxo j e] at hq; exact ⟨hinv.hr.disj _ _ hq, hinv.hr.xlt _ _ hq⟩,
        fun j hj => by
          by_cases e : j = r0 + i
          · rw [e, hxi'] at hj; cases hj
          · rw [hxo j e] at hj; exact ⟨e, hj⟩⟩
    unfold Oper.wp
    rw [hrun]
    exact ⟨β', _, hinv.slots h ht (by simp [chB, hp, hk]) (v := r.1 (r0 + i)) (x := (T i).s) (by rw [hy]) hTn l vr hr' b'⟩
  | rea hw hk v hrd hbk hy =>
    refine wpOp_wanted hp (hwan.trans hw) ?_
    have hchi : chB ops T i = false := by simp [chB, hp, hk]
    -- what it reads in the heap as it stands
    have key : ∃ A1, readsA P r0 b A1 i ops[i] (T i).s (T (mOf ops T D ops.size)).s.H = some v ∧ ∀ p ∈ A1.filter (fun p => ancA b i p.1), Pend P ops T b D (mOf ops T D ops.size) p := by
      have hml := mOf_le (ops := ops) (T := T) D ops.size
      by_cases hmi : mOf ops T D ops.size ≤ i
      · refine ⟨(T i).A, ?_, ?_⟩
        · -- back in time
          have hno : ∀ c, mOf ops T D ops.size ≤ c → c < i → chB ops T c = true → ancA b i c = false := by
            intro c hc hci hch
            cases ha : ancA b i c with
            | false => rfl
            | true =>
              have hDc := h.anc (by omega) ha
              have := (mOf_spec (ops := ops) (T := T) D ops.size).2 c (by omega) hDc hch
              omega
          have hleast : ∀ d, mOf ops T D ops.size + d ≤ i → (∀ c, mOf ops T D ops.size ≤ c → c < mOf ops T D ops.size + d → chB ops T c = false) ∨
              ∃ c, mOf ops T D ops.size ≤ c ∧ c < mOf ops T D ops.size + d ∧ chB ops T c = true ∧ ∀ c', mOf ops T D ops.size ≤ c' → c' < c → chB ops T c' = false := by
            intro d
            induction d with
            | zero => intro _; exact .inl fun c a b => by omega
            | succ d ih =>
              intro hd
              rcases ih (by omega) with h1 | ⟨c, a1, a2, a3, a4⟩
              · cases hch : chB ops T (mOf ops T D ops.size + d) with
                | true => exact .inr ⟨_, by omega, by omega, hch, fun c' p q => h1 c' p q⟩
                | false =>
                  left
                  intro c a b
                  by_cases e : c = mOf ops T D ops.size + d
                  · rw [e]; exact hch
                  · exact h1 c a (by omega)
              · exact .inr ⟨c, a1, by omega, a3, a4⟩
          rcases hleast (i - mOf ops T D ops.size) (by omega) with h1 | ⟨c, a1, a2, a3, a4⟩
          · have hb := (ht.between (m := mOf ops T D ops.size) (i - mOf ops T D ops.size) (by omega) (fun c p q => h1 c p q)).1
            rw [show mOf ops T D ops.size + (i - mOf ops T D ops.size) = i by omega] at hb
            rw [← hb]; exact hrd
          · have hb := (ht.between (m := mOf ops T D ops.size) (c - mOf ops T D ops.size) (by omega) (fun c' p q => a4 c' p (by omega))).1
            rw [show mOf ops T D ops.size + (c - mOf ops T D ops.size) = c by omega] at hb
            rw [← hb]
            have hci : c < i := by omega
            have hmem : c ∈ (T i).cs := (ht.mem_cs i (by omega) c).2 ⟨hci, a3⟩
            obtain ⟨k, hk1, hk2⟩ := List.getElem_of_mem hmem
            have hk3 : (T i).cs[k]? = some c := by rw [List.getElem?_eq_getElem hk1, hk2]
            obtain ⟨g1, g2, g3⟩ := ht.hist i (by omega)
            obtain ⟨u, e1, e2⟩ := backA_spec (T i).cs (T i).hist hbk k c _ hk3 (g2 k c hk3) (fun l c' hl hc' => by
              have hc'm := (ht.mem_cs i (by omega) c').1 (List.mem_of_getElem? hc')
              have hle : c ≤ c' := by
                by_cases e : l = k
                · subst e; rw [hk3] at hc'; cases hc'; exact Nat.le_refl _
                · exact Nat.le_of_lt (g3 l k c' c (by omega) hc' hk3)
              exact hno c' (by omega) hc'm.1 hc'm.2)
            rw [e1, e2]
        · rintro ⟨j, x⟩ hpx
          obtain ⟨h1, h2⟩ := List.mem_filter.1 hpx
          obtain ⟨q1, q2, q3, q4⟩ := (ht.mem_A h.ok i (by omega) j x).1 h1
          exact ⟨by show j < _; omega, h.anc (by omega) h2, q2, q3, fun c hc hch => q4 c (by omega) hch⟩
      · -- on in time
        rcases (mOf_spec (ops := ops) (T := T) D ops.size).1 with h0 | ⟨j, hj, hm, hDj, hcj⟩
        · omega
        · have hji : i < j := by
            have : j ≠ i := by intro e; subst e; rw [h.no] at hDj; cases hDj
            omega
          obtain ⟨_, _, _, s', _, hrda, hTj⟩ := chB_step ht hj hcj
          rw [hm]
          refine ⟨(T (j + 1)).A, ?_, ?_⟩
          · have hin0 : (i, ops[i], (T i).s, v) ∈ (T (i + 1)).rd := by rw [hy]; exact List.mem_cons_self
            have hin := ht.mem_rd hin0 (j - (i + 1)) (by omega)
            rw [show i + 1 + (j - (i + 1)) = j by omega] at hin
            have hc := List.all_eq_true.1 hrda _ hin
            simp only [(h.not hj hDj).2, Bool.false_or] at hc
            have hTA : (T (j + 1)).A = (T j).A.filter fun p => !ancA b j p.1 := by rw [hTj]
            have hTH : (T (j + 1)).s.H = s'.H := by rw [hTj]
            rw [hTA, hTH]
            cases hr : readsA P r0 b ((T j).A.filter fun p => !ancA b j p.1) i ops[i] (T i).s s'.H with
            | none => rw [hr] at hc; cases hc
            | some u => rw [hr] at hc; rw [veq_eq u v hc]
          · rintro ⟨q, x⟩ hpx
            obtain ⟨h1, h2⟩ := List.mem_filter.1 hpx
            obtain ⟨q1, q2, q3, q4⟩ := (ht.mem_A h.ok (j + 1) (by omega) q x).1 h1
            exact ⟨by show q < _; omega, h.anc (by omega) h2, q2, q3, fun c hc hch => q4 c (by omega) hch⟩
    obtain ⟨A1, hread, hpend⟩ := key
    unfold readsA at hread
    split at hread
    case h_2 => cases hread
    rename_i u H1 hop
    cases hread
    obtain ⟨rfl, _⟩ := read_same hk hop
    rw [opA_congr ops[i] _ (fun x hx => (hev x hx).symm)] at hop
    have hlay := hinv.hr.lay hr0 _ hpend
    refine (opA_sound hinv.fr.ev hlay hop).wp fun β' v' w' l vr hr' b' => ?_
    refine ⟨β', _, hinv.slots h ht hchi (x := (T i).s) (by rw [hy]) hTn l vr ?_ b'⟩
    rw [XD_same (by simp [alB, hp, hk])]
    exact HR.unlay hr0 _ hpend (fun p hp => hinv.hr.disj _ _ ((hpend p hp).xd X)) hxn hr'
  | cha hw hk hcs s' hop hrd hy =>
    refine wpOp_wanted hp (hwan.trans hw) ?_
    have hch : chB ops T i = true := by simp [chB, hp, hk, hw]
    have hm := h.atChain ht hch
    have hm' := h.plusChain ht hch
    have hat := ht.atM (i := i) (by omega)
    rw [← hm] at hat
    have hmi : mOf ops T D ops.size ≤ i := by rw [hm]; exact mOf_le _ _
    have hnone : ∀ c, mOf ops T D ops.size ≤ c → c < i → chB ops T c = false := fun c h1 h2 => mOf_none (fun _ => true) i c (by rw [← hm]; exact h1) h2 rfl
    have hpend : ∀ p ∈ (T i).A.filter (fun p => ancA b i p.1), Pend P ops T b D (mOf ops T D ops.size) p := by
      rintro ⟨j, x⟩ hpx
      obtain ⟨h1, h2⟩ := List.mem_filter.1 hpx
      obtain ⟨q1, q2, q3, q4⟩ := (ht.mem_A h.ok i (by omega) j x).1 h1
      exact ⟨by show j < _; omega, h.anc (by omega) h2, q2, q3, fun c hc hch => q4 c (by omega) hch⟩
    have hlay := hinv.hr.lay hr0 _ hpend
    obtain ⟨v, H', d', hs', hdo⟩ := doOp_shape hop
    have hdo2 := hdo { s with H := layA r0 (T i).s.H ((T i).A.filter fun p => ancA b i p.1), d := (T i).s.d } (fun x hx => hev x hx) rfl rfl
    have hSR : SR β (XM r0 (XD P ops T b r0 X D (mOf ops T D ops.size)) ((T i).A.filter fun p => ancA b i p.1)) base { s with H := layA r0 (T i).s.H ((T i).A.filter fun p => ancA b i p.1), d := (T i).s.d } a w :=
      ⟨hinv.fr, by rw [hat.2]; exact hinv.df, by rw [hat.1]; exact hlay⟩
    have hXeq : XM r0 (XD P ops T b r0 X D (mOf ops T D ops.size)) ((T i).A.filter fun p => ancA b i p.1) = XD P ops T b r0 X (plus D i) (i + 1) := by
      funext id
      by_cases hrng : r0 ≤ id ∧ id < r0 + (ops.size + 1)
      · obtain ⟨j, rfl⟩ : ∃ j, id = r0 + j := ⟨id - r0, by omega⟩
        have hjs : j < ops.size + 1 := by omega
        by_cases hji : j = i
        · subst hji
          have hal : alB ops T j = false := by simp [alB, hp, hk]
          rw [XM_other (fun p hp' e => by have := (hpend p hp').al; rw [show p.1 = j by omega, hal] at this; cases this)]
          simp [XD, hrng, hal]
        · have hpl : plus D i j = D j := by simp [plus, hji]
          by_cases hpn : D j = true ∧ alB ops T j = true
          · have hjn : j < ops.size := by
              by_cases e : j = ops.size
              · rw [e, hDn] at hpn; cases hpn.1
              · omega
            cases hai : ancA b i j with
            | true =>
              -- wanted by i
              have h2 : XD P ops T b r0 X (plus D i) (i + 1) (r0 + j) = none := by
                simp only [XD, Nat.add_sub_cancel_left, hpl]
                rw [if_pos hrng, if_pos hpn, if_pos]
                exact List.any_eq_true.2 ⟨i, by simp, by simp [hch, hai]⟩
              rw [h2]
              by_cases hmem : ∃ p ∈ (T i).A.filter (fun p => ancA b i p.1), r0 + p.1 = r0 + j
              · obtain ⟨p, hp', e⟩ := hmem
                rw [← e]; exact XM_key hp'
              · rw [XM_other (fun p hp' e => hmem ⟨p, hp', e⟩)]
                simp only [XD, Nat.add_sub_cancel_left]
                rw [if_pos hrng, if_pos hpn]
                split
                · rfl
                · rename_i hmg
                  exfalso
                  have hji2 := h.ok.lt i hi j hjn hai
                  have hbo : ∃ x, blkO P ops T j = some x := by
                    have hal := hpn.2
                    unfold alB at hal
                    rw [op_at hjn] at hal
                    simp only [Bool.and_eq_true, beq_iff_eq] at hal
                    cases ht.step j _ (op_at hjn) with
                    | all hw2 hk2 r2 h2 hy2 => exact ⟨r2.2, by simp [blkO, op_at hjn, h2]⟩
                    | dis hw2 hy2 => rw [hw2] at hal; cases hal.1
                    | qui hw2 hk2 => rw [hk2] at hal; cases hal.2
                    | rea hw2 hk2 => rw [hk2] at hal; cases hal.2
                    | cha hw2 hk2 => rw [hk2] at hal; cases hal.2
                  obtain ⟨x, hx⟩ := hbo
                  refine hmem ⟨(j, x), List.mem_filter.2 ⟨(ht.mem_A h.ok i (by omega) j x).2 ⟨hji2, hpn.2, hx, fun c hc hcc => ?_⟩, hai⟩, rfl⟩
                  have hcm : c < mOf ops T D ops.size := by
                    rcases Nat.lt_or_ge c (mOf ops T D ops.size) with k | k
                    · exact k
                    · have := hnone c k hc; rw [hcc] at this; cases this
                  cases hac : ancA b c j with
                  | false => rfl
                  | true =>
                    refine absurd (List.any_eq_true.2 ⟨c, by simpa using hcm, ?_⟩) hmg
                    simp [hcc, hac]
            | false =>
              rw [XM_other (fun p hp' e => by
                have := (List.mem_filter.1 hp').2
                rw [show p.1 = j by omega, hai] at this; cases this)]
              simp only [XD, Nat.add_sub_cancel_left, hpl]
              rw [if_pos hrng, if_pos hpn, if_pos hrng, if_pos hpn]
              have e : ((List.range (mOf ops T D ops.size)).any fun c => chB ops T c && ancA b c j) = ((List.range (i + 1)).any fun c => chB ops T c && ancA b c j) := by
                rw [Bool.eq_iff_iff]
                simp only [List.any_eq_true, List.mem_range, Bool.and_eq_true]
                constructor
                · rintro ⟨c, hc, h1, h2⟩; exact ⟨c, by omega, h1, h2⟩
                · rintro ⟨c, hc, h1, h2⟩
                  refine ⟨c, ?_, h1, h2⟩
                  by_cases e : c = i
                  · subst e; rw [hai] at h2; cases h2
                  · rcases Nat.lt_or_ge c (mOf ops T D ops.size) with k | k
                    · exact k
                    · have := hnone c k (by omega); rw [h1] at this; cases this
              rw [e]
          · rw [XM_other (fun p hp' e => hpn (by have h1 := (hpend p hp').D; have h2 := (hpend p hp').al; rw [show p.1 = j by omega] at h1 h2; exact ⟨h1, h2⟩))]
            simp only [XD, Nat.add_sub_cancel_left, hpl]
            rw [if_pos hrng, if_neg hpn, if_pos hrng, if_neg hpn]
      · rw [XM_other (fun p hp' e => hrng (by have := (hpend p hp').lt; omega))]
        simp [XD, hrng]
    refine doOp_sound hN hcl hdo2 hSR (fun _ β' a' w' l hs2 b' => ?_) (fun v e => by cases e) (.inl rfl)
    rw [hXeq] at hs2
    have hTs : (T (i + 1)).s = ({ (T i).s with H := H', d := d' } : St).put ops[i].dst v := by rw [hy, hs']
    refine ⟨β', _, hinv.le.trans l, hs2.fr, by simp [hinv.sn], ?_, ?_, ?_, hinv.bl.trans b'⟩
    · exact slots_step h ht hinv.sn hinv.sl (fun t hn => hinv.fr.2.2 t (by rw [hinv.sn]; exact hn)) hTs hTn { s with H := H', d := d' } rfl rfl
    · rw [hm', hTs]; have := hs2.df; simpa using this
    · rw [hm', hTs]; have := hs2.hr; simpa using this

end
end Go.Am
