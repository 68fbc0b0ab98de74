/- Runs without fuel: 'callW', 'execW': what the runs with enough fuel come to; their equations. Conditions: none. -/
import Derived.Test.YthanhcpnhionaaaAmSound
set_option linter.all false
set_option linter.unusedSimpArgs false
set_option linter.unusedVariables false
namespace Go.Am

section
variable {P : Program}

def SubK (c c' : Cl) : Prop := ∀ f a H r, c f a H = some r → c' f a H = some r
def SubX (x x' : CodeRun) : Prop := ∀ c s r, x c s = some r → x' c s = some r

theorem doOp_mono {c c' : Cl} (h : SubK c c') {o : Oper} {s : St} {r : Ex × St} (hr : doOp P c o s = some r) : doOp P c' o s = some r := by
  unfold doOp at hr ⊢
  obtain ⟨⟨q, H⟩, hq, h1⟩ := bind_some hr
  rw [hq]
  cases q with
  | call f args =>
    obtain ⟨q2, hq2, h2⟩ := bind_some h1
    show (do match ← c' f args H with | (.ret v, H) => some (Ex.normal, ({ s with H := H } : St).put o.dst v) | (.pan v, H) => some (.panic v, { s with H := H })) = some r
    rw [h f args H q2 hq2]
    exact h2
  | _ => exact h1

theorem runOps_mono {c c' : Cl} (h : SubK c c') {ops : Array Oper} : ∀ (l : List Oper) (s : St) (r : Ex × St), runOps P c ops l s = some r → runOps P c' ops l s = some r
  | [], s, r, hr => hr
  | o :: l, s, r, hr => by
    simp only [runOps] at hr ⊢
    split at hr
    · rename_i hw
      rw [if_pos hw]
      cases hd : doOp P c o s with
      | none => rw [hd] at hr; cases hr
      | some q =>
        obtain ⟨e, s'⟩ := q
        rw [hd] at hr
        rw [doOp_mono h hd]
        cases e with
        | normal => exact runOps_mono h l s' r hr
        | _ => exact hr
    · rename_i hw
      rw [if_neg hw]
      exact runOps_mono h l _ r hr

theorem stepD_mono {c c' : Cl} (h : SubK c c') {ops : Array Oper} {b : Array Nat} {r0 i : Nat} {o : Oper} {x y : DS} (hr : stepD P c ops b r0 i o x = some y) : stepD P c' ops b r0 i o x = some y := by
  unfold stepD at hr ⊢
  split at hr
  · rename_i hw
    rw [if_pos hw]
    split at hr
    · exact hr
    · exact hr
    · exact hr
    · split at hr
      · rename_i hcs
        rw [if_pos hcs]
        obtain ⟨q, hq, h1⟩ := bind_some hr
        show (doOp P c' o { x.s with H := layA r0 x.s.H (x.A.filter fun p => ancA b i p.1) } >>= _) = _
        rw [doOp_mono h hq]
        exact h1
      · cases hr
  · rename_i hw
    rw [if_neg hw]
    exact hr

theorem runD_mono {c c' : Cl} (h : SubK c c') {ops : Array Oper} {b : Array Nat} {r0 : Nat} : ∀ (l : List Oper) (i : Nat) (x y : DS), runD P c ops b r0 i l x = some y → runD P c' ops b r0 i l x = some y
  | [], i, x, y, hr => hr
  | o :: l, i, x, y, hr => by
    simp only [runD] at hr ⊢
    obtain ⟨q, hq, h1⟩ := bind_some (x := stepD P c ops b r0 i o x) hr
    rw [stepD_mono h hq]
    exact runD_mono h l (i + 1) q y h1

theorem regionD_mono {c c' : Cl} (h : SubK c c') {ops : Array Oper} {s : St} {r : Ex × St} (hr : regionD P c ops s = some r) : regionD P c' ops s = some r := by
  unfold regionD at hr ⊢
  split at hr
  · rename_i hk
    rw [if_pos hk]
    obtain ⟨q, hq, h1⟩ := bind_some hr
    show (runD P c' ops _ _ 0 ops.toList _ >>= _) = _
    rw [runD_mono h _ _ _ _ hq]
    exact h1
  · cases hr

theorem stepC_mono {c c' : Cl} {x x' : CodeRun} (h : SubK c c') (k : SubX x x') : SubX (stepC P c x) (stepC P c' x') := by
  intro q s r hr
  cases q with
  | region id ops draw =>
    simp only [stepC] at hr ⊢
    split at hr
    · rename_i hd; rw [if_pos hd]; exact regionD_mono h hr
    · rename_i hd; rw [if_neg hd]; exact runOps_mono h _ _ _ hr
  | seq a b =>
    simp only [stepC] at hr ⊢
    cases ha : x a s with
    | none => rw [ha] at hr; cases hr
    | some q =>
      obtain ⟨e, s'⟩ := q
      rw [ha] at hr
      rw [k _ _ _ ha]
      cases e with
      | normal => exact k _ _ _ hr
      | _ => exact hr
  | cond o a b =>
    simp only [stepC] at hr ⊢
    split at hr
    · exact k _ _ _ hr
    · cases hr
  | block id a =>
    simp only [stepC] at hr ⊢
    cases ha : x a s with
    | none => rw [ha] at hr; cases hr
    | some q =>
      obtain ⟨e, s'⟩ := q
      rw [ha] at hr
      rw [k _ _ _ ha]
      exact hr
  | loop a =>
    simp only [stepC] at hr ⊢
    cases ha : x a s with
    | none => rw [ha] at hr; cases hr
    | some q =>
      obtain ⟨e, s'⟩ := q
      rw [ha] at hr
      rw [k _ _ _ ha]
      cases e with
      | normal => exact k _ _ _ hr
      | _ => exact hr
  | _ => exact hr

theorem runOpsS_mono {c c' : Cl} (h : SubK c c') {ops : Array Oper} : ∀ (l : List Oper) (p : Option Value) (s : St) (r : Ex × Option Value × St), runOpsS P c ops l p s = some r → runOpsS P c' ops l p s = some r
  | [], p, s, r, hr => hr
  | o :: l, p, s, r, hr => by
    simp only [runOpsS] at hr ⊢
    split at hr
    · rename_i hw
      rw [if_pos hw]
      split at hr
      · rename_i hrec
        rw [if_pos hrec]
        cases p with
        | some v => exact runOpsS_mono h l _ _ r hr
        | none => exact runOpsS_mono h l _ _ r hr
      · rename_i hrec
        rw [if_neg hrec]
        cases hd : doOp P c o s with
        | none => rw [hd] at hr; cases hr
        | some q =>
          obtain ⟨e, s'⟩ := q
          rw [hd] at hr
          rw [doOp_mono h hd]
          cases e with
          | normal => exact runOpsS_mono h l p s' r hr
          | _ => exact hr
    · rename_i hw
      rw [if_neg hw]
      exact runOpsS_mono h l p _ r hr

theorem codeS_mono {c c' : Cl} {x x' : CodeRun} (h : SubK c c') (k : SubX x x') : ∀ (q : Code) (p : Option Value) (s : St) (r : Ex × Option Value × St), codeS P c x q p s = some r → codeS P c' x' q p s = some r := by
  have other : ∀ (q : Code) (p : Option Value) (s : St) (r : Ex × Option Value × St), (x q s).map (fun (e, s) => (e, p, s)) = some r → (x' q s).map (fun (e, s) => (e, p, s)) = some r := by
    intro q p s r hr
    obtain ⟨y, hy, e⟩ := map_some hr
    rw [k _ _ _ hy]
    exact congrArg some e
  intro q
  induction q with
  | seq a b iha ihb =>
    intro p s r hr
    simp only [codeS] at hr ⊢
    cases ha : codeS P c x a p s with
    | none => rw [ha] at hr; cases hr
    | some y =>
      obtain ⟨e, p', s'⟩ := y
      rw [ha] at hr
      rw [iha p s _ ha]
      cases e with
      | normal => exact ihb p' s' r hr
      | _ => exact hr
  | cond o a b iha ihb =>
    intro p s r hr
    simp only [codeS] at hr ⊢
    split at hr
    · split at hr
      · rename_i ht; rw [if_pos ht]; exact iha p s r hr
      · rename_i ht; rw [if_neg ht]; exact ihb p s r hr
    · cases hr
  | region id ops draw =>
    intro p s r hr
    simp only [codeS] at hr ⊢
    split at hr
    · rename_i hd; rw [if_pos hd]; exact other _ p s r hr
    · rename_i hd; rw [if_neg hd]; exact runOpsS_mono h _ _ _ _ hr
  | _ => intro p s r hr; simp only [codeS] at hr ⊢; exact other _ p s r hr

theorem unwind_mono {c c' : Cl} {x x' : CodeRun} (h : SubK c c') (k : SubX x x') {fn : Func} {s : St} : ∀ (ds : List Deferred) (p : Option Value) (H : Heap) (r : CR × Heap), unwindA P c x fn s ds p H = some r → unwindA P c' x' fn s ds p H = some r
  | [], none, H, r, hr => hr
  | [], some v, H, r, hr => hr
  | d :: ds, p, H, r, hr => by
    simp only [unwindA] at hr ⊢
    split at hr
    · obtain ⟨gn, hgn, h1⟩ := bind_some hr
      obtain ⟨q, hq, h2⟩ := bind_some h1
      obtain ⟨⟨e, p', s'⟩, hc, h3⟩ := bind_some h2
      simp only [hgn, hq, Option.bind_eq_bind, Option.bind_some, codeS_mono h k _ _ _ _ hc]
      cases e with
      | normal =>
        dsimp only at h3 ⊢
        split at h3
        · rename_i hd
          rw [if_pos hd]
          obtain ⟨v, hv, h4⟩ := bind_some h3
          rw [hv]
          exact unwind_mono h k ds p' s'.H r h4
        · cases h3
      | ret =>
        dsimp only at h3 ⊢
        split at h3
        · rename_i hd
          rw [if_pos hd]
          obtain ⟨v, hv, h4⟩ := bind_some h3
          rw [hv]
          exact unwind_mono h k ds p' s'.H r h4
        · cases h3
      | _ => cases h3
    · cases hr

theorem callA_mono {c c' : Cl} {x x' : CodeRun} (h : SubK c c') (k : SubX x x') : SubK (callA P c x) (callA P c' x') := by
  intro f a H r hr
  unfold callA at hr ⊢
  obtain ⟨fn, hfn, h1⟩ := bind_some hr
  obtain ⟨q, hq, h2⟩ := bind_some h1
  obtain ⟨⟨e, s⟩, he, h3⟩ := bind_some h2
  simp only [hfn, hq, Option.bind_eq_bind, Option.bind_some, k _ _ _ he]
  cases e with
  | normal => exact unwind_mono h k _ _ _ _ h3
  | ret => exact unwind_mono h k _ _ _ _ h3
  | panic v =>
    dsimp only at h3 ⊢
    split at h3
    · rename_i hd; rw [if_pos hd]; exact unwind_mono h k _ _ _ _ h3
    · cases h3
  | exit id => cases h3

theorem lvl_mono1 : ∀ k, SubX (lvl P k).1 (lvl P (k + 1)).1 ∧ SubK (lvl P k).2 (lvl P (k + 1)).2
  | 0 => ⟨(fun _ _ _ h => by cases h), (fun _ _ _ _ h => by cases h)⟩
  | k + 1 => by
    obtain ⟨h1, h2⟩ := lvl_mono1 k
    exact ⟨stepC_mono h2 h1, callA_mono h2 h1⟩

theorem lvl_mono {i j : Nat} (h : i ≤ j) : SubX (lvl P i).1 (lvl P j).1 ∧ SubK (lvl P i).2 (lvl P j).2 := by
  obtain ⟨d, rfl⟩ : ∃ d, j = i + d := ⟨j - i, by omega⟩
  clear h
  induction d with
  | zero => exact ⟨fun _ _ _ h => h, fun _ _ _ _ h => h⟩
  | succ d ih =>
    obtain ⟨h1, h2⟩ := ih
    obtain ⟨k1, k2⟩ := lvl_mono1 (P := P) (i + d)
    exact ⟨fun c s r h => k1 c s r (h1 c s r h), fun f a H r h => k2 f a H r (h2 f a H r h)⟩

end

/- WITHOUT FUEL -/
open Classical in
noncomputable def execW (P : Program) (c : Code) (s : St) : Option (Ex × St) := if h : ∃ r k, exec P k c s = some r then some (Classical.choose h) else none
open Classical in
noncomputable def callW (P : Program) (f : FuncId) (a : Array Value) (H : Heap) : Option (CR × Heap) := if h : ∃ r k, call P k f a H = some r then some (Classical.choose h) else none

section
variable {P : Program}

theorem execW_iff {c : Code} {s : St} {r : Ex × St} : execW P c s = some r ↔ ∃ k, exec P k c s = some r := by
  unfold execW
  constructor
  · intro h
    split at h
    · rename_i hx
      obtain ⟨k, hk⟩ := Classical.choose_spec hx
      cases h
      exact ⟨k, hk⟩
    · cases h
  · rintro ⟨k, hk⟩
    have hx : ∃ r k, exec P k c s = some r := ⟨r, k, hk⟩
    rw [dif_pos hx]
    obtain ⟨j, hj⟩ := Classical.choose_spec hx
    have h1 := (lvl_mono (P := P) (Nat.le_max_left k j)).1 c s r hk
    have h2 := (lvl_mono (P := P) (Nat.le_max_right k j)).1 c s _ hj
    rw [h1] at h2
    exact h2.symm

theorem callW_iff {f : FuncId} {a : Array Value} {H : Heap} {r : CR × Heap} : callW P f a H = some r ↔ ∃ k, call P k f a H = some r := by
  unfold callW
  constructor
  · intro h
    split at h
    · rename_i hx
      obtain ⟨k, hk⟩ := Classical.choose_spec hx
      cases h
      exact ⟨k, hk⟩
    · cases h
  · rintro ⟨k, hk⟩
    have hx : ∃ r k, call P k f a H = some r := ⟨r, k, hk⟩
    rw [dif_pos hx]
    obtain ⟨j, hj⟩ := Classical.choose_spec hx
    have h1 := (lvl_mono (P := P) (Nat.le_max_left k j)).2 f a H r hk
    have h2 := (lvl_mono (P := P) (Nat.le_max_right k j)).2 f a H _ hj
    rw [h1] at h2
    exact h2.symm

/- what is run over the limits is run with some fuel -/
theorem doOp_fin {o : Oper} {s : St} {r : Ex × St} (hr : doOp P (callW P) o s = some r) : ∃ k, doOp P (call P k) o s = some r := by
  unfold doOp at hr
  obtain ⟨⟨q, H⟩, hq, h1⟩ := bind_some hr
  cases q with
  | call f args =>
    obtain ⟨q2, hq2, h2⟩ := bind_some h1
    obtain ⟨k, hk⟩ := callW_iff.1 hq2
    refine ⟨k, ?_⟩
    unfold doOp
    rw [hq]
    show (do match ← call P k f args H with | (.ret v, H) => some (Ex.normal, ({ s with H := H } : St).put o.dst v) | (.pan v, H) => some (.panic v, { s with H := H })) = some r
    rw [hk]
    exact h2
  | val v => exact ⟨0, by unfold doOp; rw [hq]; exact h1⟩
  | dfr v => exact ⟨0, by unfold doOp; rw [hq]; exact h1⟩
  | pan v => exact ⟨0, by unfold doOp; rw [hq]; exact h1⟩

theorem call_le {i j : Nat} (h : i ≤ j) : SubK (call P i) (call P j) := (lvl_mono h).2
theorem exec_le {i j : Nat} (h : i ≤ j) : SubX (exec P i) (exec P j) := (lvl_mono h).1

theorem runOps_fin {ops : Array Oper} : ∀ (l : List Oper) (s : St) (r : Ex × St), runOps P (callW P) ops l s = some r → ∃ k, runOps P (call P k) ops l s = some r
  | [], s, r, hr => ⟨0, hr⟩
  | o :: l, s, r, hr => by
    simp only [runOps] at hr
    split at hr
    · rename_i hw
      cases hd : doOp P (callW P) o s with
      | none => rw [hd] at hr; cases hr
      | some q =>
        obtain ⟨e, s'⟩ := q
        rw [hd] at hr
        obtain ⟨k, hk⟩ := doOp_fin hd
        cases e with
        | normal =>
          obtain ⟨j, hj⟩ := runOps_fin l s' r hr
          refine ⟨max k j, ?_⟩
          simp only [runOps]
          rw [if_pos hw, doOp_mono (call_le (Nat.le_max_left k j)) hk]
          exact runOps_mono (call_le (Nat.le_max_right k j)) l s' r hj
        | exit id => exact ⟨k, by simp only [runOps]; rw [if_pos hw, hk]; exact hr⟩
        | ret => exact ⟨k, by simp only [runOps]; rw [if_pos hw, hk]; exact hr⟩
        | panic v => exact ⟨k, by simp only [runOps]; rw [if_pos hw, hk]; exact hr⟩
    · rename_i hw
      obtain ⟨j, hj⟩ := runOps_fin l _ r hr
      exact ⟨j, by simp only [runOps]; rw [if_neg hw]; exact hj⟩

theorem stepD_fin {ops : Array Oper} {b : Array Nat} {r0 i : Nat} {o : Oper} {x y : DS} (hr : stepD P (callW P) ops b r0 i o x = some y) : ∃ k, stepD P (call P k) ops b r0 i o x = some y := by
  unfold stepD at hr
  split at hr
  · rename_i hw
    split at hr
    · rename_i hk; exact ⟨0, by unfold stepD; rw [if_pos hw, hk]; exact hr⟩
    · rename_i hk; exact ⟨0, by unfold stepD; rw [if_pos hw, hk]; exact hr⟩
    · rename_i hk; exact ⟨0, by unfold stepD; rw [if_pos hw, hk]; exact hr⟩
    · rename_i hk
      split at hr
      · rename_i hcs
        obtain ⟨q, hq, h1⟩ := bind_some hr
        obtain ⟨k, hk2⟩ := doOp_fin hq
        refine ⟨k, ?_⟩
        unfold stepD
        rw [if_pos hw, hk]
        dsimp only
        rw [if_pos hcs]
        show (doOp P (call P k) o { x.s with H := layA r0 x.s.H (x.A.filter fun p => ancA b i p.1) } >>= _) = _
        rw [hk2]
        exact h1
      · cases hr
  · rename_i hw
    exact ⟨0, by unfold stepD; rw [if_neg hw]; exact hr⟩

theorem runD_fin {ops : Array Oper} {b : Array Nat} {r0 : Nat} : ∀ (l : List Oper) (i : Nat) (x y : DS), runD P (callW P) ops b r0 i l x = some y → ∃ k, runD P (call P k) ops b r0 i l x = some y
  | [], i, x, y, hr => ⟨0, hr⟩
  | o :: l, i, x, y, hr => by
    simp only [runD] at hr
    obtain ⟨q, hq, h1⟩ := bind_some (x := stepD P (callW P) ops b r0 i o x) hr
    obtain ⟨k, hk⟩ := stepD_fin hq
    obtain ⟨j, hj⟩ := runD_fin l (i + 1) q y h1
    refine ⟨max k j, ?_⟩
    simp only [runD]
    rw [stepD_mono (call_le (Nat.le_max_left k j)) hk]
    exact runD_mono (call_le (Nat.le_max_right k j)) l (i + 1) q y hj

theorem regionD_fin {ops : Array Oper} {s : St} {r : Ex × St} (hr : regionD P (callW P) ops s = some r) : ∃ k, regionD P (call P k) ops s = some r := by
  unfold regionD at hr
  split at hr
  · rename_i hk
    obtain ⟨q, hq, h1⟩ := bind_some hr
    obtain ⟨k, hk2⟩ := runD_fin _ _ _ _ hq
    refine ⟨k, ?_⟩
    unfold regionD
    rw [if_pos hk]
    show (runD P (call P k) ops _ _ 0 ops.toList _ >>= _) = _
    rw [hk2]
    exact h1
  · cases hr

theorem stepC_fin {q : Code} {s : St} {r : Ex × St} (hr : stepC P (callW P) (execW P) q s = some r) : ∃ k, stepC P (call P k) (exec P k) q s = some r := by
  cases q with
  | region id ops draw =>
    simp only [stepC] at hr
    split at hr
    · rename_i hd
      obtain ⟨k, hk⟩ := regionD_fin hr
      exact ⟨k, by simp only [stepC]; rw [if_pos hd]; exact hk⟩
    · rename_i hd
      obtain ⟨k, hk⟩ := runOps_fin _ _ _ hr
      exact ⟨k, by simp only [stepC]; rw [if_neg hd]; exact hk⟩
  | seq a b =>
    simp only [stepC] at hr
    cases ha : execW P a s with
    | none => rw [ha] at hr; cases hr
    | some q =>
      obtain ⟨e, s'⟩ := q
      rw [ha] at hr
      obtain ⟨k, hk⟩ := execW_iff.1 ha
      cases e with
      | normal =>
        obtain ⟨j, hj⟩ := execW_iff.1 hr
        exact ⟨max k j, by simp only [stepC]; rw [exec_le (Nat.le_max_left k j) _ _ _ hk]; exact exec_le (Nat.le_max_right k j) _ _ _ hj⟩
      | exit id => exact ⟨k, by simp only [stepC]; rw [hk]; exact hr⟩
      | ret => exact ⟨k, by simp only [stepC]; rw [hk]; exact hr⟩
      | panic v => exact ⟨k, by simp only [stepC]; rw [hk]; exact hr⟩
  | cond o a b =>
    simp only [stepC] at hr
    split at hr
    · rename_i t ht
      obtain ⟨k, hk⟩ := execW_iff.1 hr
      exact ⟨k, by simp only [stepC]; rw [ht]; exact hk⟩
    · cases hr
  | block id a =>
    simp only [stepC] at hr
    cases ha : execW P a s with
    | none => rw [ha] at hr; cases hr
    | some q =>
      obtain ⟨e, s'⟩ := q
      rw [ha] at hr
      obtain ⟨k, hk⟩ := execW_iff.1 ha
      exact ⟨k, by simp only [stepC]; rw [hk]; exact hr⟩
  | loop a =>
    simp only [stepC] at hr
    cases ha : execW P a s with
    | none => rw [ha] at hr; cases hr
    | some q =>
      obtain ⟨e, s'⟩ := q
      rw [ha] at hr
      obtain ⟨k, hk⟩ := execW_iff.1 ha
      cases e with
      | normal =>
        obtain ⟨j, hj⟩ := execW_iff.1 hr
        exact ⟨max k j, by simp only [stepC]; rw [exec_le (Nat.le_max_left k j) _ _ _ hk]; exact exec_le (Nat.le_max_right k j) _ _ _ hj⟩
      | exit id => exact ⟨k, by simp only [stepC]; rw [hk]; exact hr⟩
      | ret => exact ⟨k, by simp only [stepC]; rw [hk]; exact hr⟩
      | panic v => exact ⟨k, by simp only [stepC]; rw [hk]; exact hr⟩
  | skip => exact ⟨0, hr⟩
  | exit id => exact ⟨0, hr⟩
  | ret => exact ⟨0, hr⟩
  | _ => cases hr

theorem runOpsS_fin {ops : Array Oper} : ∀ (l : List Oper) (p : Option Value) (s : St) (r : Ex × Option Value × St), runOpsS P (callW P) ops l p s = some r → ∃ k, runOpsS P (call P k) ops l p s = some r
  | [], p, s, r, hr => ⟨0, hr⟩
  | o :: l, p, s, r, hr => by
    simp only [runOpsS] at hr
    split at hr
    · rename_i hw
      split at hr
      · rename_i hrec
        cases p with
        | some v =>
          obtain ⟨k, hk⟩ := runOpsS_fin l _ _ r hr
          exact ⟨k, by simp only [runOpsS]; rw [if_pos hw, if_pos hrec]; exact hk⟩
        | none =>
          obtain ⟨k, hk⟩ := runOpsS_fin l _ _ r hr
          exact ⟨k, by simp only [runOpsS]; rw [if_pos hw, if_pos hrec]; exact hk⟩
      · rename_i hrec
        cases hd : doOp P (callW P) o s with
        | none => rw [hd] at hr; cases hr
        | some q =>
          obtain ⟨e, s'⟩ := q
          rw [hd] at hr
          obtain ⟨k, hk⟩ := doOp_fin hd
          cases e with
          | normal =>
            obtain ⟨j, hj⟩ := runOpsS_fin l p s' r hr
            refine ⟨max k j, ?_⟩
            simp only [runOpsS]
            rw [if_pos hw, if_neg hrec, doOp_mono (call_le (Nat.le_max_left k j)) hk]
            exact runOpsS_mono (call_le (Nat.le_max_right k j)) l p s' r hj
          | exit id => exact ⟨k, by simp only [runOpsS]; rw [if_pos hw, if_neg hrec, hk]; exact hr⟩
          | ret => exact ⟨k, by simp only [runOpsS]; rw [if_pos hw, if_neg hrec, hk]; exact hr⟩
          | panic v => exact ⟨k, by simp only [runOpsS]; rw [if_pos hw, if_neg hrec, hk]; exact hr⟩
    · rename_i hw
      obtain ⟨k, hk⟩ := runOpsS_fin l p _ r hr
      exact ⟨k, by simp only [runOpsS]; rw [if_neg hw]; exact hk⟩

theorem codeS_fin : ∀ (q : Code) (p : Option Value) (s : St) (r : Ex × Option Value × St), codeS P (callW P) (execW P) q p s = some r → ∃ k, codeS P (call P k) (exec P k) q p s = some r := by
  have other : ∀ (q : Code) (p : Option Value) (s : St) (r : Ex × Option Value × St), (execW P q s).map (fun (e, s) => (e, p, s)) = some r → ∃ k, (exec P k q s).map (fun (e, s) => (e, p, s)) = some r := by
    intro q p s r hr
    obtain ⟨y, hy, e⟩ := map_some hr
    obtain ⟨k, hk⟩ := execW_iff.1 hy
    exact ⟨k, by rw [hk]; exact congrArg some e⟩
  intro q
  induction q with
  | seq a b iha ihb =>
    intro p s r hr
    simp only [codeS] at hr
    cases ha : codeS P (callW P) (execW P) a p s with
    | none => rw [ha] at hr; cases hr
    | some y =>
      obtain ⟨e, p', s'⟩ := y
      rw [ha] at hr
      obtain ⟨k, hk⟩ := iha p s _ ha
      cases e with
      | normal =>
        obtain ⟨j, hj⟩ := ihb p' s' r hr
        exact ⟨max k j, by simp only [codeS]; rw [codeS_mono (call_le (Nat.le_max_left k j)) (exec_le (Nat.le_max_left k j)) _ _ _ _ hk]; exact codeS_mono (call_le (Nat.le_max_right k j)) (exec_le (Nat.le_max_right k j)) _ _ _ _ hj⟩
      | exit id => exact ⟨k, by simp only [codeS]; rw [hk]; exact hr⟩
      | ret => exact ⟨k, by simp only [codeS]; rw [hk]; exact hr⟩
      | panic v => exact ⟨k, by simp only [codeS]; rw [hk]; exact hr⟩
  | cond o a b iha ihb =>
    intro p s r hr
    simp only [codeS] at hr
    split at hr
    · rename_i t ht
      split at hr
      · rename_i htt
        obtain ⟨k, hk⟩ := iha p s r hr
        exact ⟨k, by simp only [codeS]; rw [ht]; dsimp only; rw [if_pos htt]; exact hk⟩
      · rename_i htt
        obtain ⟨k, hk⟩ := ihb p s r hr
        exact ⟨k, by simp only [codeS]; rw [ht]; dsimp only; rw [if_neg htt]; exact hk⟩
    · cases hr
  | region id ops draw =>
    intro p s r hr
    simp only [codeS] at hr
    split at hr
    · rename_i hd
      obtain ⟨k, hk⟩ := other _ p s r hr
      exact ⟨k, by simp only [codeS]; rw [if_pos hd]; exact hk⟩
    · rename_i hd
      obtain ⟨k, hk⟩ := runOpsS_fin _ _ _ _ hr
      exact ⟨k, by simp only [codeS]; rw [if_neg hd]; exact hk⟩
  | _ => intro p s r hr; simp only [codeS] at hr ⊢; exact other _ p s r hr

theorem unwind_fin {fn : Func} {s : St} : ∀ (ds : List Deferred) (p : Option Value) (H : Heap) (r : CR × Heap), unwindA P (callW P) (execW P) fn s ds p H = some r → ∃ k, unwindA P (call P k) (exec P k) fn s ds p H = some r
  | [], none, H, r, hr => ⟨0, hr⟩
  | [], some v, H, r, hr => ⟨0, hr⟩
  | d :: ds, p, H, r, hr => by
    simp only [unwindA] at hr
    split at hr
    · rename_i g captured ht
      obtain ⟨gn, hgn, h1⟩ := bind_some hr
      obtain ⟨q, hq, h2⟩ := bind_some h1
      obtain ⟨⟨e, p', s'⟩, hc, h3⟩ := bind_some h2
      obtain ⟨k, hk⟩ := codeS_fin _ _ _ _ hc
      have hend : ∃ h4 : s'.d.isEmpty = true, ∃ v, resultsA P gn s' = some v ∧ unwindA P (callW P) (execW P) fn s ds p' s'.H = some r ∧ (e = .normal ∨ e = .ret) := by
        cases e with
        | normal =>
          dsimp only at h3
          split at h3
          · rename_i hd
            obtain ⟨v, hv, h4⟩ := bind_some h3
            exact ⟨hd, v, hv, h4, .inl rfl⟩
          · cases h3
        | ret =>
          dsimp only at h3
          split at h3
          · rename_i hd
            obtain ⟨v, hv, h4⟩ := bind_some h3
            exact ⟨hd, v, hv, h4, .inr rfl⟩
          · cases h3
        | _ => cases h3
      obtain ⟨hd, v, hv, h4, he⟩ := hend
      obtain ⟨j, hj⟩ := unwind_fin ds p' s'.H r h4
      refine ⟨max k j, ?_⟩
      simp only [unwindA, ht, hgn, hq, Option.bind_eq_bind, Option.bind_some, codeS_mono (call_le (Nat.le_max_left k j)) (exec_le (Nat.le_max_left k j)) _ _ _ _ hk]
      rcases he with rfl | rfl
      · dsimp only; rw [if_pos hd, hv]; exact unwind_mono (call_le (Nat.le_max_right k j)) (exec_le (Nat.le_max_right k j)) _ _ _ _ hj
      · dsimp only; rw [if_pos hd, hv]; exact unwind_mono (call_le (Nat.le_max_right k j)) (exec_le (Nat.le_max_right k j)) _ _ _ _ hj
    · cases hr

theorem callA_fin {f : FuncId} {a : Array Value} {H : Heap} {r : CR × Heap} (hr : callA P (callW P) (execW P) f a H = some r) : ∃ k, callA P (call P k) (exec P k) f a H = some r := by
  unfold callA at hr
  obtain ⟨fn, hfn, h1⟩ := bind_some hr
  obtain ⟨q, hq, h2⟩ := bind_some h1
  obtain ⟨⟨e, s⟩, he, h3⟩ := bind_some h2
  obtain ⟨k, hk⟩ := execW_iff.1 he
  have fin : ∀ p, unwindA P (callW P) (execW P) fn s s.d p s.H = some r → ∃ j, unwindA P (call P (max k j)) (exec P (max k j)) fn s s.d p s.H = some r ∧ exec P (max k j) q (enterA fn a H) = some (e, s) := by
    intro p hp
    obtain ⟨j, hj⟩ := unwind_fin _ _ _ _ hp
    exact ⟨j, unwind_mono (call_le (Nat.le_max_right k j)) (exec_le (Nat.le_max_right k j)) _ _ _ _ hj, exec_le (Nat.le_max_left k j) _ _ _ hk⟩
  cases e with
  | normal =>
    obtain ⟨j, h4, h5⟩ := fin none h3
    exact ⟨max k j, by unfold callA; simp only [hfn, hq, Option.bind_eq_bind, Option.bind_some, h5]; exact h4⟩
  | ret =>
    obtain ⟨j, h4, h5⟩ := fin none h3
    exact ⟨max k j, by unfold callA; simp only [hfn, hq, Option.bind_eq_bind, Option.bind_some, h5]; exact h4⟩
  | panic v =>
    dsimp only at h3
    split at h3
    · rename_i hd
      obtain ⟨j, h4, h5⟩ := fin (some v) h3
      exact ⟨max k j, by unfold callA; simp only [hfn, hq, Option.bind_eq_bind, Option.bind_some, h5]; rw [if_pos hd]; exact h4⟩
    · cases h3
  | exit id => cases h3

/- THE EQUATIONS -/
theorem execW_eq (c : Code) (s : St) : execW P c s = stepC P (callW P) (execW P) c s := by
  cases h : stepC P (callW P) (execW P) c s with
  | some r =>
    obtain ⟨k, hk⟩ := stepC_fin h
    exact execW_iff.2 ⟨k + 1, hk⟩
  | none =>
    cases h2 : execW P c s with
    | none => rfl
    | some r =>
      obtain ⟨k, hk⟩ := execW_iff.1 h2
      cases k with
      | zero => cases hk
      | succ k =>
        have h3 : stepC P (call P k) (exec P k) c s = some r := hk
        have := stepC_mono (P := P) (c' := callW P) (x' := execW P) (fun f a H r h => callW_iff.2 ⟨k, h⟩) (fun c s r h => execW_iff.2 ⟨k, h⟩) c s r h3
        rw [h] at this; cases this

theorem callW_eq (f : FuncId) (a : Array Value) (H : Heap) : callW P f a H = callA P (callW P) (execW P) f a H := by
  cases h : callA P (callW P) (execW P) f a H with
  | some r =>
    obtain ⟨k, hk⟩ := callA_fin h
    exact callW_iff.2 ⟨k + 1, hk⟩
  | none =>
    cases h2 : callW P f a H with
    | none => rfl
    | some r =>
      obtain ⟨k, hk⟩ := callW_iff.1 h2
      cases k with
      | zero => cases hk
      | succ k =>
        have h3 : callA P (call P k) (exec P k) f a H = some r := hk
        have := callA_mono (P := P) (c' := callW P) (x' := execW P) (fun f a H r h => callW_iff.2 ⟨k, h⟩) (fun c s r h => execW_iff.2 ⟨k, h⟩) f a H r h3
        rw [h] at this; cases this

end
end Go.Am
