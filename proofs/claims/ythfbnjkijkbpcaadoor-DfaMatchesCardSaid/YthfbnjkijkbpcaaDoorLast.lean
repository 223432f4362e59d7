/- The law DfaMatches returns true for every input, and leaves its arguments as they were. Conditions: none beyond the row's own. -/
import Derived.Test.YthfbnjkijkbpcaaDoorM6
import Derived.Test.YthfbnjkijkbpcaaDoorM9
import Derived.Test.YthfbnjkijkbpcaaDoorM8
import Derived.Test.YthfbnjkijkbpcaaDoorRows
import Derived.Test.YthfbnjkijkbpcaaDoorTie
import Derived.Test.YthfbnjkijkbpcaaDoorCards
import Derived.LaidMore
import Derived.Lay
import Derived.SevenTiedAt
import Derived.Shelf.Vars
set_option maxHeartbeats 4000000
set_option linter.unusedVariables false
set_option linter.unusedSimpArgs false
namespace Go.Proofs.YthfbnjkijkbpcaaDoor
open Go Go.ChangeShapes Go.WideShapes Go.ChangeAt Go.RowKit Go.Proofs.Zs07
theorem own : ownKnob Tryd.prog.godebug = none := by kernel_rfl
theorem laidOut : laidOutB Tryd.prog = true := by kernel_rfl
theorem someMax {W : World} (h : W.ShapedOpen Tryd.prog) : ∃ m, W.cell? ⟨0, 0, Option.none⟩ = some (.int .i64 m) :=
  cell_of_shapedOpen_int (g := 0) (t := 3) (zero := #[.int .i64 0]) h (of_decide_eq_true (by kernel_rfl)) (by kernel_rfl) rfl (by kernel_rfl) (by kernel_rfl) un3
def partsS : List TypeId := [32, 40, 5, 38, 23, 3]
set_option maxRecDepth 100000 in
theorem matches_lifted (os : Os) (started : os.Started) (H : Type) (enc : TypeId × Value → H) :
    ReturnsInHanded {} Tryd.checked os 4 .any (fun w args => (Rows.dfaMatchesSpec.pre enc Tryd.prog Tryd.f4 Rows.dfaMatchesRow.domain false w args ∧ laidMetH Tryd.prog Rows.dfaMatchesRow.laid w) ∧ sizedMet enc Tryd.prog Tryd.f4 (OpenSpec.ofChange Rows.dfaMatchesSpec) false w args)
      (Rows.dfaMatchesSpec.post enc Tryd.prog Tryd.f4 false true false false) := by
  refine Vm.law_lifted (C := Tryd.checked) (fn := Tryd.f4) (A := W.A) (S := partsS) (tb := 4) started own (by kernel_rfl) Tryd.func4
    (ChangeSpec.witness_shaped (enc := enc) (C := Tryd.checked) (os := os) (X := fun w _ => laidMetH Tryd.prog Rows.dfaMatchesRow.laid w) false (World.laidAll Tryd.prog os Rows.dfaMatchesRow.laid) #[.slice none 0 0, .slice none 0 0] 8 (World.laidAll_os _ _ _)
      (World.shaped_of_ZipB (by kernel_rfl) (by kernel_rfl)) (by kernel_rfl) (by kernel_rfl) (by kernel_rfl)
      (by rw [MakeChecks.laidMetH_plain _ _ _ (by kernel_rfl)]; exact laidMet_laidAll _ (by kernel_rfl) (by kernel_rfl)))
    rfl laidOut (by kernel_rfl) (by kernel_rfl) (by kernel_rfl) bo4 rfl un4 ?_ (fun W hW => @Go.Proofs.W.primA ⟨Vm.im0 W⟩ (someMax hW)) ?_
  · intro ds h
    match ds, h with
    | [a, b], _ => exact ⟨rfl, rfl, rfl⟩
  · intro Ds h
    obtain ⟨xs, r, rfl, -, hx, h⟩ := Vm.typedA_slice un32 (by kernel_rfl) h
    obtain ⟨ys, r, rfl, -, hy, h⟩ := Vm.typedA_slice un23 (by kernel_rfl) h
    cases Vm.typedA_nil h
    obtain ⟨l, rfl, ht⟩ := W.rxs_of_typed hx
    obtain ⟨w, rfl⟩ := Vm.typedE_ints un3 (by kernel_rfl) hy
    exact W.run_of_yes (W.matches_law l (fun r hr hg => W.ok_of_great 20 r (ht r hr) hg) w)
theorem matches_row_holds : Rows.DfaMatchesSaid :=
  OpenClaim.holds_of_wide 4 Tryd.f4 rfl rfl rfl rfl rfl rfl rfl ⟨rfl, rfl, rfl, rfl, rfl⟩ rfl rfl rfl rfl rfl (by kernel_rfl) Tryd.func4 (by kernel_rfl)
    (of_decide_eq_true (by kernel_rfl)) (by unfold Func.isWrapper; first | (rw [if_pos (by decide +kernel)]; kernel_rfl) | (rw [if_neg (by decide +kernel)]; exact ⟨rfl, rfl⟩))
    (fun os started H enc _ => matches_lifted os started H enc)
theorem matches_holds : Rows.DfaMatchesCardSaid :=
  Claim7.holds_tied_plain_at .later [] [.data, .pinned] true (true, "fbceb66a48ae087550cce282f433fadfb992a5f41fc447675e349750b8381148") true matches_row_holds (fun _ h => by cases h) (by kernel_rfl) (fun _ h => by cases h) dfaMatches_row_tie rfl ⟨rfl, rfl⟩ (by kernel_rfl) rfl
    (fun f fn hf hfn => by
      obtain rfl : f = 4 := Option.some.inj ((show Tryd.prog.funcNamed "reedpen/reedpenlaw07.DfaMatches" = some 4 by kernel_rfl).symm.trans hf) |>.symm
      obtain rfl : fn = Tryd.f4 := (Option.some.inj (Tryd.func4.symm.trans hfn)).symm
      exact ⟨by kernel_rfl, fun j t ht => by
        have hm : t ∈ partsS := by
          have h0 : (Tryd.f4.params.toList.all fun t => partsS.contains t) = true := by kernel_rfl
          have h1 : t ∈ Tryd.f4.params.toList := by simpa using Array.mem_of_getElem? ht
          simpa using List.all_eq_true.1 h0 t h1
        have hall : (partsS.all fun u => !Tryd.prog.wantsStandIn u) = true := by kernel_rfl
        exact (show Tryd.prog.wantsStandIn t = false by simpa using List.all_eq_true.1 hall t hm)⟩)
    (by kernel_rfl)
end Go.Proofs.YthfbnjkijkbpcaaDoor
