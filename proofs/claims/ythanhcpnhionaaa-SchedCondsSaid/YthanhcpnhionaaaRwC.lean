/- SchedConds is true of every input, and its arguments read behind the call as before. Conditions: none. -/
import Derived.Test.YthanhcpnhionaaaRw0
import Derived.Test.YthanhcpnhionaaaPuC
set_option linter.all false
set_option linter.unusedSimpArgs false
set_option linter.unusedVariables false
namespace Go.Proofs.Ythanhcpnhionaaa
open Go.ChangeShapes Go.WideShapes Go.ChangeAt Go.RowKit Go.Am Go.Am.T

set_option maxRecDepth 100000 in
theorem conds_lifted (os : Os) (started : os.Started) (H : Type) (enc : TypeId × Value → H) :
    ReturnsInHanded {} Try.checked os 7 .any (Rows.schedCondsSpec.pre6 enc Try.prog Try.f7 Rows.schedCondsRow.domain false) (Rows.schedCondsSpec.post enc Try.prog Try.f7 false true false false) := by
  refine returnsInHanded_of_change (C := Try.checked) Try.own started (by kernel_rfl) Try.func7
    (ChangeSpec.witness6 (enc := enc) (C := Try.checked) false ⟨#[], #[.int .i64 0, .bool false, .slice none 0 0], []⟩ 8 (by kernel_rfl) (by kernel_rfl) (by kernel_rfl) (by kernel_rfl)) ?_
  intro W base args ds gs before hval0 hW hcnd _
  have hval : ∀ (j : Nat) t v, Try.f7.params[j]? = some t → args[j]? = some v → Value.okWide Try.prog W .any base t v := hval0
  have hW' := hW
  obtain ⟨p, q, hA0, hV, rfl, hfz, hnd⟩ := hW
  have hA : DataW.TrodAll enc Try.prog W 0 (fun _ => true) true Try.f7.params.toList args.toList ds p := hA0
  rw [Try.params7] at hA hval
  obtain ⟨v0, v1, v2, d0, d1, d2, p0, p1, p2, rfl, rfl, rfl, h0, h1, h2⟩ := trodAll_three hA
  obtain ⟨rfl, rfl⟩ := trodVars_none hV
  obtain ⟨n, rfl, rfl, rfl, _⟩ := open_int Try.underlying3 (hval 0 3 v0 rfl rfl) h0
  obtain ⟨t, rfl, rfl, rfl⟩ := open_bool Try.underlying4 (hval 1 4 v1 rfl rfl) h1
  obtain ⟨sa, sn, sc, rfl⟩ := okWide_slice Try.underlying23 (hval 2 23 v2 rfl rfl)
  obtain ⟨o, pv, zs, hI⟩ := open_in Try.underlying23 Try.underlying3 (by kernel_rfl) rfl h2 0
  have hrun := conds_W (inH [o]).old (WF_in [o] inLe1) (n := n) (cast := t) (hI.rd [o] inLe1 rfl) (fun n a b c d => conds_pure t a b c d)
  refine (calls_of Try.mixed Try.nameOk (L := [o]) inLe1 (ent1 hI) (args' := #[.int .i64 n, .bool t, .slice sa sn sc]) ?_ hrun).mono ?_
  · refine ⟨rfl, fun i u u' hu hu' => ?_⟩
    match i with
    | 0 => cases hu; cases hu'; exact .int _ _
    | 1 => cases hu; cases hu'; exact .bool _
    | 2 => cases hu; cases hu'; exact hI.vr _ rfl
    | i + 3 => simp at hu
  · rintro _ W' ⟨rfl, hb⟩
    exact ⟨_, rfl, law_post Try.laidOut hW' rfl rfl rfl rfl (by rw [Try.params7]; decide) (by kernel_rfl) Try.underlying4 hb⟩

theorem schedConds_holds : Rows.SchedCondsSaid :=
  OpenClaim.holds_of_wide 7 Try.f7 rfl rfl rfl rfl rfl rfl rfl ⟨rfl, rfl, rfl, rfl, rfl⟩ rfl rfl rfl rfl rfl (by kernel_rfl) Try.func7 (by kernel_rfl)
    (of_decide_eq_true (by kernel_rfl)) (by unfold Func.isWrapper; first | (rw [if_pos (by decide +kernel)]; kernel_rfl) | (rw [if_neg (by decide +kernel)]; exact ⟨rfl, rfl⟩))
    (fun os started H enc _ => conds_lifted os started H enc)
#print axioms schedConds_holds
end Go.Proofs.Ythanhcpnhionaaa
