/- Closed facts of the program. Conditions: none. -/
import Derived.Test.YthanhcpnhionaaaRows
import Derived.Test.YthanhcpnhionaaaSdIn
import Derived.ProofKit
set_option linter.all false
set_option linter.unusedSimpArgs false
set_option linter.unusedVariables false
namespace Go.Proofs.Ythanhcpnhionaaa
open Go.ChangeShapes Go.WideShapes Go.ChangeAt Go.RowKit Go.Am Go.Am.T

theorem Try.own : ownKnob Try.prog.godebug = none := by kernel_rfl
theorem Try.laidOut : laidOutB Try.prog = true := by kernel_rfl
theorem Try.mixed : Try.prog.follows .mixedOrders = true := by kernel_rfl
theorem Try.names : (Try.prog.funcs.toList.all fun fn => !(fn.name == "runtime.NumGoroutine")) = true := by kernel_rfl
theorem Try.nameOk : NameOk Try.prog := by
  intro f fn hf
  have hm : fn ∈ Try.prog.funcs.toList := by
    obtain ⟨h1, h2⟩ := Array.getElem?_eq_some_iff.1 hf
    rw [← h2]; exact Array.mem_toList_iff.2 (Array.getElem_mem h1)
  have := List.all_eq_true.1 Try.names fn hm
  simpa using this
theorem inLe1 {o : Option Ent} : ([o] : InL).length ≤ base0 := by show 1 ≤ base0; unfold base0; omega
theorem ent1 {W : World} {o : Option Ent} {pv v : Value} {zs : List Int} (hI : InInt W v o 0 pv zs) : ∀ (i : Nat) (e : Ent), ([o] : InL)[i]? = some (some e) → EntOk W (inB [o]) e := by
  intro i e he
  cases i with
  | zero => exact hI.ok e (by simpa using he) [o]
  | succ i => simp at he
end Go.Proofs.Ythanhcpnhionaaa
