/- The law LayoutFinds returns true for every input, and leaves its arguments as they were. Conditions: none beyond the row's own. -/
import Derived.Test.YtfigdlahcihpjaaGreatM6
import Derived.Test.YtfigdlahcihpjaaGreatM7
import Derived.Test.YtfigdlahcihpjaaGreatRows
set_option maxHeartbeats 4000000
set_option linter.unusedVariables false
set_option linter.unusedSimpArgs false
namespace Go.Proofs.YtfigdlahcihpjaaGreat
open Go Go.ChangeShapes Go.WideShapes Go.ChangeAt Go.RowKit Go.Proofs.Zs14
theorem own : ownKnob Tryz.prog.godebug = none := by kernel_rfl
theorem laidOut : laidOutB Tryz.prog = true := by kernel_rfl
def partsS : List TypeId := [26, 22, 32, 9, 27, 3, 23, 30, 24, 67, 65, 99, 88, 192, 4, 89, 90, 134, 136, 91, 108, 105, 139, 106, 111, 92, 163, 93, 128, 167, 94, 209, 95, 172, 171, 96, 175, 97, 129, 130]
set_option maxRecDepth 100000 in
theorem finds_lifted (os : Os) (started : os.Started) (H : Type) (enc : TypeId × Value → H) :
    ReturnsInHanded {} Tryz.checked os 3 .any (Rows.layoutFindsSpec.pre6 enc Tryz.prog Tryz.f3 Rows.layoutFindsRow.domain false) (Rows.layoutFindsSpec.post enc Tryz.prog Tryz.f3 false true false false) := by
  refine returnsInHanded_of_change (C := Tryz.checked) own started (by kernel_rfl) Tryz.func3
    (ChangeSpec.witness6 (enc := enc) (C := Tryz.checked) false ⟨#[], #[.agg #[.slice none 0 0, .slice none 0 0, .slice none 0 0], .string "".toUTF8, .slice none 0 0], []⟩ 8 (by kernel_rfl) (by kernel_rfl) (by kernel_rfl) (by kernel_rfl)) ?_
  intro w0 base args ds gs before hval hW _ _
  refine Vm.law_contract (C := Tryz.checked) (fn := Tryz.f3) (A := Go.Proofs.W.A) (S := partsS) (tb := 4) rfl laidOut (fun t ht => by
    have := List.all_eq_true.1 (show (Tryz.f3.params.toList.all fun t => Tryz.prog.readableRec t && decide (t < Tryz.prog.types.size)) = true by kernel_rfl) t ht
    have h2 : Tryz.prog.readableRec t = true ∧ decide (t < Tryz.prog.types.size) = true := by simpa only [Bool.and_eq_true] using this
    exact ⟨h2.1, of_decide_eq_true h2.2⟩) (by kernel_rfl) (by kernel_rfl) bo3 rfl un4 ?_ ?_ w0 base args ds gs before hval hW (@Go.Proofs.W.primA ⟨Vm.im0 w0⟩)
  · intro ds h
    match ds, h with
    | [a, b, c], _ => exact ⟨rfl, rfl, rfl⟩
  · intro Ds h
    obtain ⟨cs, r, rfl, hc, h⟩ := Go.Proofs.W.typedA_agg (by kernel_rfl) h
    obtain ⟨s, r, rfl, -, h⟩ := Vm.typedA_str un9 (by kernel_rfl) h
    obtain ⟨xs, r, rfl, -, hx, h⟩ := Vm.typedA_slice un27 (by kernel_rfl) h
    cases Vm.typedA_nil h
    obtain ⟨ss, fs, ls, hd, h1, h2, h3⟩ := Go.Proofs.W.lay_of_typed hc
    obtain ⟨l, rfl⟩ := Vm.typedE_ints un3 (by kernel_rfl) hx
    rw [hd]
    exact Go.Proofs.W.run_of_yes (Go.Proofs.W.finds_law ss fs ls s l h1 h2 h3)
theorem finds_holds : Rows.LayoutFindsSaid :=
  OpenClaim.holds_of_wide 3 Tryz.f3 rfl rfl rfl rfl rfl rfl rfl ⟨rfl, rfl, rfl, rfl, rfl⟩ rfl rfl rfl rfl rfl (by kernel_rfl) Tryz.func3 (by kernel_rfl)
    (of_decide_eq_true (by kernel_rfl)) (by unfold Func.isWrapper; first | (rw [if_pos (by decide +kernel)]; kernel_rfl) | (rw [if_neg (by decide +kernel)]; exact ⟨rfl, rfl⟩))
    (fun os started H enc _ => finds_lifted os started H enc)
end Go.Proofs.YtfigdlahcihpjaaGreat
