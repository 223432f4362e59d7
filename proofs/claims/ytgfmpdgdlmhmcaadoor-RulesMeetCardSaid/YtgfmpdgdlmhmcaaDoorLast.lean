/- The law RulesMeet of the chapter on rules returns true for every input, and leaves its arguments as they were. Conditions: none beyond the row's own. -/
import Derived.Test.YtgfmpdgdlmhmcaaDoorM5
import Derived.Test.YtgfmpdgdlmhmcaaDoorM8
import Derived.Test.YtgfmpdgdlmhmcaaDoorRows
import Derived.Test.YtgfmpdgdlmhmcaaDoorTie
import Derived.Test.YtgfmpdgdlmhmcaaDoorCards
import Derived.LaidMore
import Derived.Lay
import Derived.SevenTiedAt
import Derived.Shelf.Vars
set_option maxHeartbeats 4000000
set_option linter.unusedVariables false
set_option linter.unusedSimpArgs false
namespace Go.Proofs.YtgfmpdgdlmhmcaaDoor
open Go Go.ChangeShapes Go.WideShapes Go.ChangeAt Go.RowKit Go.Proofs.Zs05
theorem own : ownKnob Tryd.prog.godebug = none := by kernel_rfl
theorem laidOut : laidOutB Tryd.prog = true := by kernel_rfl
theorem someMax {W : World} (h : W.ShapedOpen Tryd.prog) : ∃ m, W.cell? ⟨0, 0, Option.none⟩ = some (.int .i64 m) :=
  cell_of_shapedOpen_int (g := 0) (t := 3) (zero := #[.int .i64 0]) h (of_decide_eq_true (by kernel_rfl)) (by kernel_rfl) rfl (by kernel_rfl) (by kernel_rfl) un3
def partsS : List TypeId := [22, 42, 40, 38, 9, 4, 5, 37, 3, 25]
set_option maxRecDepth 100000 in
theorem meet_lifted (os : Os) (started : os.Started) (H : Type) (enc : TypeId × Value → H) :
    ReturnsInHanded {} Tryd.checked os 5 .any (fun w args => (Rows.rulesMeetSpec.pre enc Tryd.prog Tryd.f5 Rows.rulesMeetRow.domain false w args ∧ laidMetH Tryd.prog Rows.rulesMeetRow.laid w) ∧ sizedMet enc Tryd.prog Tryd.f5 (OpenSpec.ofChange Rows.rulesMeetSpec) false w args)
      (Rows.rulesMeetSpec.post enc Tryd.prog Tryd.f5 false true false false) := by
  refine Vm.law_lifted (C := Tryd.checked) (fn := Tryd.f5) (A := W.A) (S := partsS) (tb := 4) started own (by kernel_rfl) Tryd.func5
    (ChangeSpec.witness_shaped (enc := enc) (C := Tryd.checked) (os := os) (X := fun w _ => laidMetH Tryd.prog Rows.rulesMeetRow.laid w) false (World.laidAll Tryd.prog os Rows.rulesMeetRow.laid) #[.string ByteArray.empty, .slice none 0 0] 8 (World.laidAll_os _ _ _)
      (World.shaped_of_ZipB (by kernel_rfl) (by kernel_rfl)) (by kernel_rfl) (by kernel_rfl) (by kernel_rfl)
      (by rw [MakeChecks.laidMetH_plain _ _ _ (by kernel_rfl)]; exact laidMet_laidAll _ (by kernel_rfl) (by kernel_rfl)))
    rfl laidOut (by kernel_rfl) (by kernel_rfl) (by kernel_rfl) bo5 rfl un4 ?_ (fun W hW => @Go.Proofs.W.primA ⟨Vm.im0 W⟩ (someMax hW)) ?_
  · intro ds h
    match ds, h with
    | [a, b], _ => exact ⟨rfl, rfl, rfl⟩
  · intro Ds h
    obtain ⟨w, r, rfl, -, h⟩ := Vm.typedA_str un9 (by kernel_rfl) h
    obtain ⟨xs, r, rfl, -, hx, h⟩ := Vm.typedA_slice un25 (by kernel_rfl) h
    cases Vm.typedA_nil h
    obtain ⟨l, rfl⟩ := Vm.typedE_ints un3 (by kernel_rfl) hx
    exact W.run_of_yes (W.meet_law w l)
theorem meet_row_holds : Rows.RulesMeetSaid :=
  OpenClaim.holds_of_wide 5 Tryd.f5 rfl rfl rfl rfl rfl rfl rfl ⟨rfl, rfl, rfl, rfl, rfl⟩ rfl rfl rfl rfl rfl (by kernel_rfl) Tryd.func5 (by kernel_rfl)
    (of_decide_eq_true (by kernel_rfl)) (by unfold Func.isWrapper; first | (rw [if_pos (by decide +kernel)]; kernel_rfl) | (rw [if_neg (by decide +kernel)]; exact ⟨rfl, rfl⟩))
    (fun os started H enc _ => meet_lifted os started H enc)
theorem meet_holds : Rows.RulesMeetCardSaid :=
  Claim7.holds_tied_plain_at .later [] [.data, .pinned] true (true, "a86de2a0531bd3bb7a31cab1c4e389b91620cfeba67ad7af4a0521139d69bcf5") true meet_row_holds (fun _ h => by cases h) (by kernel_rfl) (fun _ h => by cases h) rulesMeet_row_tie rfl ⟨rfl, rfl⟩ (by kernel_rfl) rfl
    (fun f fn hf hfn => by
      obtain rfl : f = 5 := Option.some.inj ((show Tryd.prog.funcNamed "reedpen/reedpenlaw05.RulesMeet" = some 5 by kernel_rfl).symm.trans hf) |>.symm
      obtain rfl : fn = Tryd.f5 := (Option.some.inj (Tryd.func5.symm.trans hfn)).symm
      exact ⟨by kernel_rfl, fun j t ht => by
        have hm : t ∈ partsS := by
          have h0 : (Tryd.f5.params.toList.all fun t => partsS.contains t) = true := by kernel_rfl
          have h1 : t ∈ Tryd.f5.params.toList := by simpa using Array.mem_of_getElem? ht
          simpa using List.all_eq_true.1 h0 t h1
        have hall : (partsS.all fun u => !Tryd.prog.wantsStandIn u) = true := by kernel_rfl
        exact (show Tryd.prog.wantsStandIn t = false by simpa using List.all_eq_true.1 hall t hm)⟩)
    (by kernel_rfl)
end Go.Proofs.YtgfmpdgdlmhmcaaDoor
