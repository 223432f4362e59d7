/- The law WatchRises of the chapter on watching returns true for every input, and leaves its arguments as they were. Conditions: none beyond the row's own. -/
import Derived.Test.YtcppjlmicdfceaaM5
import Derived.Test.YtcppjlmicdfceaaM8
set_option maxHeartbeats 4000000
set_option linter.unusedVariables false
set_option linter.unusedSimpArgs false
namespace Go.Proofs.Ytcppjlmicdfceaa
open Go.ChangeShapes Go.WideShapes Go.ChangeAt Go.RowKit Go.Proofs.Zs30
theorem rises_lifted (os : Os) (started : os.Started) (H : Type) (enc : TypeId × Value → H) :
    ReturnsInHanded {} Try.checked os 6 .any (Rows.watchRisesSpec.pre6 enc Try.prog Try.f6 Rows.watchRisesRow.domain false) (Rows.watchRisesSpec.post enc Try.prog Try.f6 false true false false) := by
  refine returnsInHanded_of_change (C := Try.checked) own started (by kernel_rfl) Try.func6
    (ChangeSpec.witness6 (enc := enc) (C := Try.checked) false ⟨#[], #[.slice none 0 0, .int .i64 0], []⟩ 8 (by kernel_rfl) (by kernel_rfl) (by kernel_rfl) (by kernel_rfl)) ?_
  intro W base args ds gs before hval hW _ _
  refine Vm.law_contract (C := Try.checked) (fn := Try.f6) (A := Wt.A) (pk := 6) (tb := 4) Wt.primA rfl laidOut (fun t ht => by
    have := List.all_eq_true.1 (show (Try.f6.params.toList.all fun t => Try.prog.readableRec t && decide (t < Try.prog.types.size)) = true by kernel_rfl) t ht
    have h2 : Try.prog.readableRec t = true ∧ decide (t < Try.prog.types.size) = true := by simpa only [Bool.and_eq_true] using this
    exact ⟨h2.1, of_decide_eq_true h2.2⟩) (fun t ht => List.all_eq_true.1 (show (Try.f6.params.toList.all fun t => Vm.plainT Try.prog 6 t) = true by kernel_rfl) t ht) bo6 rfl un4 ?_ ?_ W base args ds gs before hval hW
  · intro ds h
    match ds, h with
    | [a, b], _ => exact ⟨rfl, rfl, rfl⟩
  · intro Ds h
    obtain ⟨l, c, rfl⟩ := Wt.lc h
    exact Wt.run_of_yes (Wt.rises_law l c)
theorem rises_holds : Rows.WatchRisesSaid :=
  OpenClaim.holds_of_wide 6 Try.f6 rfl rfl rfl rfl rfl rfl rfl ⟨rfl, rfl, rfl, rfl, rfl⟩ rfl rfl rfl rfl rfl (by kernel_rfl) Try.func6 (by kernel_rfl)
    (of_decide_eq_true (by kernel_rfl)) (by unfold Func.isWrapper; first | (rw [if_pos (by decide +kernel)]; kernel_rfl) | (rw [if_neg (by decide +kernel)]; exact ⟨rfl, rfl⟩))
    (fun os started H enc _ => rises_lifted os started H enc)
end Go.Proofs.Ytcppjlmicdfceaa
