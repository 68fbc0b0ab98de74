/- SchedSplit is true of every input, and its arguments read behind the call as before. Conditions: none. -/
import Derived.Test.YthanhcpnhionaaaRw0
import Derived.Test.YthanhcpnhionaaaSdV
import Derived.Test.YthanhcpnhionaaaSdX
set_option linter.all false
set_option linter.unusedSimpArgs false
set_option linter.unusedVariables false
namespace Go.Proofs.Ythanhcpnhionaaa
open Go.ChangeShapes Go.WideShapes Go.ChangeAt Go.RowKit Go.Am Go.Am.T

theorem trodAll_5 {H : Type} {enc : TypeId × Value → H} {P : Program} {w : World} {base : Nat} {spare : Nat → Bool} {held : Bool} {t0 t1 t2 t3 t4 : TypeId} {args : Array Value} {ds : List (DataW H)} {ps : List MemPlace} (h : DataW.TrodAll enc P w base spare held [t0, t1, t2, t3, t4] args.toList ds ps) :
    ∃ v0 v1 v2 v3 v4 d0 d1 d2 d3 d4 p0 p1 p2 p3 p4, args = #[v0, v1, v2, v3, v4] ∧ ds = [d0, d1, d2, d3, d4] ∧ ps = p0 ++ p1 ++ p2 ++ p3 ++ p4 ∧ DataW.Trod enc P w base spare held t0 v0 d0 p0 ∧ DataW.Trod enc P w base spare held t1 v1 d1 p1 ∧ DataW.Trod enc P w base spare held t2 v2 d2 p2 ∧
      DataW.Trod enc P w base spare held t3 v3 d3 p3 ∧ DataW.Trod enc P w base spare held t4 v4 d4 p4 := by
  obtain ⟨v0, vs0, d0, ds0, p0, q0, hargs, rfl, rfl, h0, hr⟩ := trodAll_cons h
  obtain ⟨v1, vs1, d1, ds1, p1, q1, rfl, rfl, rfl, h1, hr⟩ := trodAll_cons hr
  obtain ⟨v2, vs2, d2, ds2, p2, q2, rfl, rfl, rfl, h2, hr⟩ := trodAll_cons hr
  obtain ⟨v3, vs3, d3, ds3, p3, q3, rfl, rfl, rfl, h3, hr⟩ := trodAll_cons hr
  obtain ⟨v4, vs4, d4, ds4, p4, q4, rfl, rfl, rfl, h4, hr⟩ := trodAll_cons hr
  obtain ⟨rfl, rfl, rfl⟩ := trodAll_nil hr
  exact ⟨v0, v1, v2, v3, v4, d0, d1, d2, d3, d4, p0, p1, p2, p3, p4, by cases args; simp_all, rfl, by simp, h0, h1, h2, h3, h4⟩

set_option maxRecDepth 100000 in
theorem split_lifted (os : Os) (started : os.Started) (H : Type) (enc : TypeId × Value → H) :
    ReturnsInHanded {} Try.checked os 4 .any (Rows.schedSplitSpec.pre6 enc Try.prog Try.f4 Rows.schedSplitRow.domain false) (Rows.schedSplitSpec.post enc Try.prog Try.f4 false true false false) := by
  refine returnsInHanded_of_change (C := Try.checked) Try.own started (by kernel_rfl) Try.func4
    (ChangeSpec.witness6 (enc := enc) (C := Try.checked) false ⟨#[], #[.slice none 0 0, .int .i64 0, .slice none 0 0, .int .i64 0, .slice none 0 0], []⟩ 8 (by kernel_rfl) (by kernel_rfl) (by kernel_rfl) (by kernel_rfl)) ?_
  intro W base args ds gs before hval0 hW hcnd _
  have hval : ∀ (j : Nat) t v, Try.f4.params[j]? = some t → args[j]? = some v → Value.okWide Try.prog W .any base t v := hval0
  have hW' := hW
  obtain ⟨p, q, hA0, hV, rfl, hfz, hnd⟩ := hW
  have hA : DataW.TrodAll enc Try.prog W 0 (fun _ => true) true Try.f4.params.toList args.toList ds p := hA0
  rw [Try.params4] at hA hval
  obtain ⟨v0, v1, v2, v3, v4, d0, d1, d2, d3, d4, p0, p1, p2, p3, p4, rfl, rfl, rfl, h0, h1, h2, h3, h4⟩ := trodAll_5 hA
  obtain ⟨rfl, rfl⟩ := trodVars_none hV
  obtain ⟨ta, tn, tc, rfl⟩ := okWide_slice Try.underlying22 (hval 0 22 v0 rfl rfl)
  obtain ⟨room, rfl, rfl, rfl, _⟩ := open_int Try.underlying3 (hval 1 3 v1 rfl rfl) h1
  obtain ⟨sa, sn, sc, rfl⟩ := okWide_slice Try.underlying23 (hval 2 23 v2 rfl rfl)
  obtain ⟨cut, rfl, rfl, rfl, hcw⟩ := open_int Try.underlying3 (hval 3 3 v3 rfl rfl) h3
  obtain ⟨ma, mn, mc, rfl⟩ := okWide_slice Try.underlying23 (hval 4 23 v4 rfl rfl)
  obtain ⟨op, pv, zs, hP⟩ := open_in Try.underlying23 Try.underlying3 (by kernel_rfl) rfl h2 1
  obtain ⟨om, mv, ms, hM⟩ := open_in Try.underlying23 Try.underlying3 (by kernel_rfl) rfl h4 2
  by_cases hbig : 20 < tn
  · obtain ⟨qa, hq⟩ := open_len Try.underlying22 h0 0
    obtain ⟨pa, pc, rfl, hpc⟩ := hP.sl
    obtain ⟨na, nc, rfl, hnc⟩ := hM.sl
    have hLb : ([none, op, om] : InL).length ≤ base0 := by show 3 ≤ base0; unfold base0; omega
    have hent : ∀ (i : Nat) (e : Ent), ([none, op, om] : InL)[i]? = some (some e) → EntOk W (inB [none, op, om]) e := by
      intro i e he
      match i, he with
      | 0, he => simp at he
      | 1, he => exact hP.ok e (by simpa using he) _
      | 2, he => exact hM.ok e (by simpa using he) _
      | i + 3, he => simp at he
    refine (calls_of Try.mixed Try.nameOk (L := [none, op, om]) hLb hent (args' := #[.slice ta tn tc, .int .i64 room, .slice sa sn sc, .int .i64 cut, .slice ma mn mc]) ?_ (split_big (inH [none, op, om]).old (room := room) (cut := cut) (ta := qa) (tc := tc) (pa := pa) (np := zs.length) (pc := pc) (ma := na) (nm := ms.length) (mc := nc) hbig)).mono ?_
    · refine ⟨rfl, fun i u u' hu hu' => ?_⟩
      match i with
      | 0 => cases hu; cases hu'; exact hq _ rfl
      | 1 => cases hu; cases hu'; exact .int _ _
      | 2 => cases hu; cases hu'; exact hP.vr _ rfl
      | 3 => cases hu; cases hu'; exact .int _ _
      | 4 => cases hu; cases hu'; exact hM.vr _ rfl
      | i + 5 => simp at hu
    · rintro _ W' ⟨rfl, hb⟩
      exact ⟨_, rfl, law_post Try.laidOut hW' rfl rfl rfl rfl (by rw [Try.params4]; decide) (by kernel_rfl) Try.underlying4 hb⟩
  obtain ⟨o, os', tv, ts, av, hT⟩ := open_tasks Try.underlying22 (by kernel_rfl) Try.underlying45 Try.underlying47 (by kernel_rfl) ⟨rfl, rfl, rfl, rfl⟩ ⟨Try.underlying3, Try.underlying3, Try.underlying3, Try.underlying2⟩ ⟨by kernel_rfl, by kernel_rfl, by kernel_rfl, by kernel_rfl⟩ rfl h0 3
  generalize hL : (o :: op :: om :: os' : InL) = L
  have l0 : L[0]? = some o := by rw [← hL]; rfl
  have l1 : L[1]? = some op := by rw [← hL]; rfl
  have l2 : L[2]? = some om := by rw [← hL]; rfl
  have l3 : ∀ j, L[3 + j]? = os'[j]? := by intro j; rw [← hL, Nat.add_comm]; rfl
  have hLb : L.length ≤ base0 := by
    rw [← hL]
    have h1 := hT.n _ _ _ rfl
    have h2 := hT.len
    show os'.length + 1 + 1 + 1 ≤ base0
    unfold base0; omega
  have hok := hT.ok L l0 fun j _ => l3 j
  have hent : ∀ (i : Nat) (e : Ent), L[i]? = some (some e) → EntOk W (inB L) e := by
    intro i e he
    match i, he with
    | 0, he => rw [l0] at he; exact hok.1 e (Option.some.inj he)
    | 1, he => rw [l1] at he; exact hP.ok e (Option.some.inj he) L
    | 2, he => rw [l2] at he; exact hM.ok e (Option.some.inj he) L
    | i + 3, he =>
      rw [Nat.add_comm, l3] at he
      exact hok.2 i e he
  obtain ⟨pa, pc, rfl, hpc⟩ := hP.sl
  have hrun := split_W (inH L).old (room := room) (cut := cut) ⟨WF_in L hLb, hT.rd L hLb l0 fun j _ => l3 j, hP.rd L hLb l1, hM.rd L hLb l2⟩ hpc (wf_i64 hcw).2
  refine (calls_of Try.mixed Try.nameOk (L := L) hLb hent (args' := #[.slice ta tn tc, .int .i64 room, .slice sa sn sc, .int .i64 cut, .slice ma mn mc]) ?_ hrun).mono ?_
  · refine ⟨rfl, fun i u u' hu hu' => ?_⟩
    match i with
    | 0 => cases hu; cases hu'; exact hT.vr _ l0
    | 1 => cases hu; cases hu'; exact .int _ _
    | 2 => cases hu; cases hu'; exact hP.vr _ l1
    | 3 => cases hu; cases hu'; exact .int _ _
    | 4 => cases hu; cases hu'; exact hM.vr _ l2
    | i + 5 => simp at hu
  · rintro _ W' ⟨rfl, hb⟩
    exact ⟨_, rfl, law_post Try.laidOut hW' rfl rfl rfl rfl (by rw [Try.params4]; decide) (by kernel_rfl) Try.underlying4 hb⟩

theorem schedSplit_holds : Rows.SchedSplitSaid :=
  OpenClaim.holds_of_wide 4 Try.f4 rfl rfl rfl rfl rfl rfl rfl ⟨rfl, rfl, rfl, rfl, rfl⟩ rfl rfl rfl rfl rfl (by kernel_rfl) Try.func4 (by kernel_rfl)
    (of_decide_eq_true (by kernel_rfl)) (by unfold Func.isWrapper; first | (rw [if_pos (by decide +kernel)]; kernel_rfl) | (rw [if_neg (by decide +kernel)]; exact ⟨rfl, rfl⟩))
    (fun os started H enc _ => split_lifted os started H enc)
#print axioms schedSplit_holds
end Go.Proofs.Ythanhcpnhionaaa
