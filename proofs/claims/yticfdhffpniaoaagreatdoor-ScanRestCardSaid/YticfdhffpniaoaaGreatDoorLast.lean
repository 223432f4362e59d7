/- The law ScanRest returns true for every input, and leaves its arguments as they were. Conditions: none beyond the row's own. -/
import Derived.Test.YticfdhffpniaoaaGreatDoorM6
import Derived.Test.YticfdhffpniaoaaGreatDoorM7
import Derived.Test.YticfdhffpniaoaaGreatDoorM8
import Derived.Test.YticfdhffpniaoaaGreatDoorRows
import Derived.Test.YticfdhffpniaoaaGreatDoorTie
import Derived.Test.YticfdhffpniaoaaGreatDoorCards
import Derived.LaidMore
import Derived.Lay
import Derived.SevenTiedAt
import Derived.Shelf.Vars
set_option maxHeartbeats 4000000
set_option linter.unusedVariables false
set_option linter.unusedSimpArgs false
namespace Go.Proofs.YticfdhffpniaoaaGreatDoor
open Go Go.ChangeShapes Go.WideShapes Go.ChangeAt Go.RowKit Go.Proofs.Zs09
theorem own : ownKnob Tryz.prog.godebug = none := by kernel_rfl
theorem laidOut : laidOutB Tryz.prog = true := by kernel_rfl
theorem someMax {W : World} (h : W.ShapedOpen Tryz.prog) : ∃ m, W.cell? ⟨0, 0, Option.none⟩ = some (.int .i64 m) :=
  cell_of_shapedOpen_int (g := 0) (t := 3) (zero := #[.int .i64 0]) h (of_decide_eq_true (by kernel_rfl)) (by kernel_rfl) rfl (by kernel_rfl) (by kernel_rfl) un3
def partsS : List TypeId := [25, 22, 67, 23, 3, 5]
set_option maxRecDepth 100000 in
theorem rest_lifted (os : Os) (started : os.Started) (H : Type) (enc : TypeId × Value → H) :
    ReturnsInHanded {} Tryz.checked os 6 .any (fun w args => (Rows.scanRestSpec.pre enc Tryz.prog Tryz.f6 Rows.scanRestRow.domain false w args ∧ laidMetH Tryz.prog Rows.scanRestRow.laid w) ∧ sizedMet enc Tryz.prog Tryz.f6 (OpenSpec.ofChange Rows.scanRestSpec) false w args)
      (Rows.scanRestSpec.post enc Tryz.prog Tryz.f6 false true false false) := by
  refine Vm.law_lifted (C := Tryz.checked) (fn := Tryz.f6) (A := W.A) (S := partsS) (tb := 4) started own (by kernel_rfl) Tryz.func6
    (ChangeSpec.witness_shaped (enc := enc) (C := Tryz.checked) (os := os) (X := fun w _ => laidMetH Tryz.prog Rows.scanRestRow.laid w) false (World.laidAll Tryz.prog os Rows.scanRestRow.laid) #[.agg #[.slice none 0 0, .slice none 0 0], .slice none 0 0, .int .u8 0] 8 (World.laidAll_os _ _ _)
      (World.shaped_of_ZipB (by kernel_rfl) (by kernel_rfl)) (by kernel_rfl) (by kernel_rfl) (by kernel_rfl)
      (by rw [MakeChecks.laidMetH_plain _ _ _ (by kernel_rfl)]; exact laidMet_laidAll _ (by kernel_rfl) (by kernel_rfl)))
    rfl laidOut (by kernel_rfl) (by kernel_rfl) (by kernel_rfl) bo6 rfl un4 ?_ (fun W hW => @Go.Proofs.W.primA ⟨Vm.im0 W⟩ (someMax hW)) ?_
  · intro ds h
    match ds, h with
    | [a, b, c], _ => exact ⟨rfl, rfl, rfl⟩
  · intro Ds h
    obtain ⟨cs, r, rfl, hc, h⟩ := W.typedA_agg (by kernel_rfl) h
    obtain ⟨xs, r, rfl, -, hx, h⟩ := Vm.typedA_slice un23 (by kernel_rfl) h
    obtain ⟨c, r, rfl, hw, h⟩ := Vm.typedA_int un5 (by kernel_rfl) h
    cases Vm.typedA_nil h
    obtain ⟨d, hd, ht, hl⟩ := W.dfa_of_typed hc
    obtain ⟨l, rfl⟩ := Vm.typedE_ints un3 (by kernel_rfl) hx
    rw [hd]
    have hw2 : 0 ≤ c ∧ c < 256 := by simp [Lit.wf, IntKind.min, IntKind.max, IntKind.signed, IntKind.bits] at hw; omega
    exact W.run_of_yes (W.rest_law d l c ht hw2.1 hw2.2 (Nat.le_trans hl (by decide)))
theorem rest_row_holds : Rows.ScanRestSaid :=
  OpenClaim.holds_of_wide 6 Tryz.f6 rfl rfl rfl rfl rfl rfl rfl ⟨rfl, rfl, rfl, rfl, rfl⟩ rfl rfl rfl rfl rfl (by kernel_rfl) Tryz.func6 (by kernel_rfl)
    (of_decide_eq_true (by kernel_rfl)) (by unfold Func.isWrapper; first | (rw [if_pos (by decide +kernel)]; kernel_rfl) | (rw [if_neg (by decide +kernel)]; exact ⟨rfl, rfl⟩))
    (fun os started H enc _ => rest_lifted os started H enc)
theorem rest_holds : Rows.ScanRestCardSaid :=
  Claim7.holds_tied_plain_at .later [] [.data, .pinned] true (true, "4c6f62a9a80d55b89ff7bf3dccae20748315ff64573d15000781a3643bdbec51") true rest_row_holds (fun _ h => by cases h) (by kernel_rfl) (fun _ h => by cases h) scanRest_row_tie rfl ⟨rfl, rfl⟩ (by kernel_rfl) rfl
    (fun f fn hf hfn => by
      obtain rfl : f = 6 := Option.some.inj ((show Tryz.prog.funcNamed "reedpen/reedpenlaw09.ScanRest" = some 6 by kernel_rfl).symm.trans hf) |>.symm
      obtain rfl : fn = Tryz.f6 := (Option.some.inj (Tryz.func6.symm.trans hfn)).symm
      exact ⟨by kernel_rfl, fun j t ht => by
        have hm : t ∈ partsS := by
          have h0 : (Tryz.f6.params.toList.all fun t => partsS.contains t) = true := by kernel_rfl
          have h1 : t ∈ Tryz.f6.params.toList := by simpa using Array.mem_of_getElem? ht
          simpa using List.all_eq_true.1 h0 t h1
        have hall : (partsS.all fun u => !Tryz.prog.wantsStandIn u) = true := by kernel_rfl
        exact (show Tryz.prog.wantsStandIn t = false by simpa using List.all_eq_true.1 hall t hm)⟩)
    (by kernel_rfl)
end Go.Proofs.YticfdhffpniaoaaGreatDoor
