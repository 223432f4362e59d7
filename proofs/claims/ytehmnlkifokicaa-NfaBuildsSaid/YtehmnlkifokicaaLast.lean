/- The law NfaBuilds returns true for every input, and leaves its arguments as they were. Conditions: none beyond the row's own. -/
import Derived.Test.YtehmnlkifokicaaM6
import Derived.Test.YtehmnlkifokicaaM9
import Derived.Test.YtehmnlkifokicaaM7
import Derived.Test.YtehmnlkifokicaaRows
set_option maxHeartbeats 4000000
set_option linter.unusedVariables false
set_option linter.unusedSimpArgs false
namespace Go.Proofs.Ytehmnlkifokicaa
open Go Go.ChangeShapes Go.WideShapes Go.ChangeAt Go.RowKit Go.Proofs.Zsb6
theorem own : ownKnob Try.prog.godebug = none := by kernel_rfl
theorem laidOut : laidOutB Try.prog = true := by kernel_rfl
def partsS : List TypeId := [22, 40, 5, 36, 3, 27]
set_option maxRecDepth 100000 in
theorem builds_lifted (os : Os) (started : os.Started) (H : Type) (enc : TypeId × Value → H) :
    ReturnsInHanded {} Try.checked os 3 .any (Rows.nfaBuildsSpec.pre6 enc Try.prog Try.f3 Rows.nfaBuildsRow.domain false) (Rows.nfaBuildsSpec.post enc Try.prog Try.f3 false true false false) := by
  refine returnsInHanded_of_change (C := Try.checked) own started (by kernel_rfl) Try.func3
    (ChangeSpec.witness6 (enc := enc) (C := Try.checked) false ⟨#[], #[.slice none 0 0], []⟩ 8 (by kernel_rfl) (by kernel_rfl) (by kernel_rfl) (by kernel_rfl)) ?_
  intro w0 base args ds gs before hval hW _ _
  refine Vm.law_contract (C := Try.checked) (fn := Try.f3) (A := Go.Proofs.W.A) (S := partsS) (tb := 4) rfl laidOut (fun t ht => by
    have := List.all_eq_true.1 (show (Try.f3.params.toList.all fun t => Try.prog.readableRec t && decide (t < Try.prog.types.size)) = true by kernel_rfl) t ht
    have h2 : Try.prog.readableRec t = true ∧ decide (t < Try.prog.types.size) = true := by simpa only [Bool.and_eq_true] using this
    exact ⟨h2.1, of_decide_eq_true h2.2⟩) (by kernel_rfl) (by kernel_rfl) bo3 rfl un4 ?_ ?_ w0 base args ds gs before hval hW (@Go.Proofs.W.primA ⟨Vm.im0 w0⟩)
  · intro ds h
    match ds, h with
    | [a], _ => exact ⟨rfl, rfl, rfl⟩
  · intro Ds h
    obtain ⟨xs, r, rfl, -, hx, h⟩ := Vm.typedA_slice un22 (by kernel_rfl) h
    cases Vm.typedA_nil h
    obtain ⟨l, rfl, ht⟩ := Go.Proofs.W.rxs_of_typed hx
    exact Go.Proofs.W.run_of_yes (Go.Proofs.W.builds_law l (Go.Proofs.W.ok_of_greatE ht))
theorem builds_holds : Rows.NfaBuildsSaid :=
  OpenClaim.holds_of_wide 3 Try.f3 rfl rfl rfl rfl rfl rfl rfl ⟨rfl, rfl, rfl, rfl, rfl⟩ rfl rfl rfl rfl rfl (by kernel_rfl) Try.func3 (by kernel_rfl)
    (of_decide_eq_true (by kernel_rfl)) (by unfold Func.isWrapper; first | (rw [if_pos (by decide +kernel)]; kernel_rfl) | (rw [if_neg (by decide +kernel)]; exact ⟨rfl, rfl⟩))
    (fun os started H enc _ => builds_lifted os started H enc)
end Go.Proofs.Ytehmnlkifokicaa
