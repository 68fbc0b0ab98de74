/- SchedGuards is true of every input, and its arguments read behind the call as before. Conditions: none. -/
import Derived.Test.YthanhcpnhionaaaRw0
import Derived.Test.YthanhcpnhionaaaPuG
set_option linter.all false
set_option linter.unusedSimpArgs false
set_option linter.unusedVariables false
namespace Go.Proofs.Ythanhcpnhionaaa
open Go.ChangeShapes Go.WideShapes Go.ChangeAt Go.RowKit Go.Am Go.Am.T

set_option maxRecDepth 100000 in
theorem guards_lifted (os : Os) (started : os.Started) (H : Type) (enc : TypeId × Value → H) :
    ReturnsInHanded {} Try.checked os 8 .any (Rows.schedGuardsSpec.pre6 enc Try.prog Try.f8 Rows.schedGuardsRow.domain false) (Rows.schedGuardsSpec.post enc Try.prog Try.f8 false true false false) := by
  refine returnsInHanded_of_change (C := Try.checked) Try.own started (by kernel_rfl) Try.func8
    (ChangeSpec.witness6 (enc := enc) (C := Try.checked) false ⟨#[], #[.slice none 0 0, .bool false], []⟩ 8 (by kernel_rfl) (by kernel_rfl) (by kernel_rfl) (by kernel_rfl)) ?_
  intro W base args ds gs before hval0 hW hcnd _
  have hval : ∀ (j : Nat) t v, Try.f8.params[j]? = some t → args[j]? = some v → Value.okWide Try.prog W .any base t v := hval0
  have hW' := hW
  obtain ⟨p, q, hA0, hV, rfl, hfz, hnd⟩ := hW
  have hA : DataW.TrodAll enc Try.prog W 0 (fun _ => true) true Try.f8.params.toList args.toList ds p := hA0
  rw [Try.params8] at hA hval
  obtain ⟨v0, v1, d0, d1, p0, p1, rfl, rfl, rfl, h0, h1⟩ := trodAll_two hA
  obtain ⟨rfl, rfl⟩ := trodVars_none hV
  obtain ⟨g, rfl, rfl, rfl⟩ := open_bool Try.underlying4 (hval 1 4 v1 rfl rfl) h1
  obtain ⟨sa, sn, sc, rfl⟩ := okWide_slice Try.underlying29 (hval 0 29 v0 rfl rfl)
  obtain ⟨o, pv, zs, hI⟩ := open_in Try.underlying29 Try.underlying2 (by kernel_rfl) rfl h0 0
  have hrun := guards_W (inH [o]).old (WF_in [o] inLe1) (g := g) (hI.rd [o] inLe1 rfl) hI.wf (fun a b => by
    cases g with
    | true => exact guards_true a b
    | false => exact guards_false a b)
  refine (calls_of Try.mixed Try.nameOk (L := [o]) inLe1 (ent1 hI) (args' := #[.slice sa sn sc, .bool g]) ?_ hrun).mono ?_
  · refine ⟨rfl, fun i u u' hu hu' => ?_⟩
    match i with
    | 0 => cases hu; cases hu'; exact hI.vr _ rfl
    | 1 => cases hu; cases hu'; exact .bool _
    | i + 2 => simp at hu
  · rintro _ W' ⟨rfl, hb⟩
    exact ⟨_, rfl, law_post Try.laidOut hW' rfl rfl rfl rfl (by rw [Try.params8]; decide) (by kernel_rfl) Try.underlying4 hb⟩

theorem schedGuards_holds : Rows.SchedGuardsSaid :=
  OpenClaim.holds_of_wide 8 Try.f8 rfl rfl rfl rfl rfl rfl rfl ⟨rfl, rfl, rfl, rfl, rfl⟩ rfl rfl rfl rfl rfl (by kernel_rfl) Try.func8 (by kernel_rfl)
    (of_decide_eq_true (by kernel_rfl)) (by unfold Func.isWrapper; first | (rw [if_pos (by decide +kernel)]; kernel_rfl) | (rw [if_neg (by decide +kernel)]; exact ⟨rfl, rfl⟩))
    (fun os started H enc _ => guards_lifted os started H enc)
#print axioms schedGuards_holds
end Go.Proofs.Ythanhcpnhionaaa
