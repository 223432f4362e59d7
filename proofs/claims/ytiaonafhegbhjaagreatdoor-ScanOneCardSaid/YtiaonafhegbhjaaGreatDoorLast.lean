/- The law ScanOne returns true for every input, and leaves its arguments as they were. Conditions: none beyond the row's own. -/
import Derived.Test.YtiaonafhegbhjaaGreatDoorM6
import Derived.Test.YtiaonafhegbhjaaGreatDoorM11
import Derived.Test.YtiaonafhegbhjaaGreatDoorRows
import Derived.Test.YtiaonafhegbhjaaGreatDoorTie
import Derived.Test.YtiaonafhegbhjaaGreatDoorCards
import Derived.LaidMore
import Derived.Lay
import Derived.SevenTiedAt
import Derived.Shelf.Vars
set_option maxHeartbeats 4000000
set_option linter.unusedVariables false
set_option linter.unusedSimpArgs false
namespace Go.Proofs.YtiaonafhegbhjaaGreatDoor
open Go Go.ChangeShapes Go.WideShapes Go.ChangeAt Go.RowKit Go.Proofs.Zso
theorem own : ownKnob Tryz.prog.godebug = none:=by kernel_rfl
theorem laidOut : laidOutB Tryz.prog = true:=by kernel_rfl
theorem someMax {W : World} (h : W.ShapedOpen Tryz.prog) : ∃ m,W.cell? ⟨0,0,Option.none⟩ = some (.int .i64 m):=
  cell_of_shapedOpen_int (g:=0) (t:=3) (zero:=#[.int .i64 0]) h (of_decide_eq_true (by kernel_rfl)) (by kernel_rfl) rfl (by kernel_rfl) (by kernel_rfl) un3
def partsS : List TypeId:=[22,48,46,44,9,4,5,43,3,23]
set_option maxRecDepth 100000 in
theorem one_lifted (os : Os) (started : os.Started) (H : Type) (enc : TypeId × Value -> H) :
    ReturnsInHanded {} Tryz.checked os 3 .any (fun w args=>(Rows.scanOneSpec.pre enc Tryz.prog Tryz.f3 Rows.scanOneRow.domain false w args /\ laidMetH Tryz.prog Rows.scanOneRow.laid w) /\ sizedMet enc Tryz.prog Tryz.f3 (OpenSpec.ofChange Rows.scanOneSpec) false w args)
      (Rows.scanOneSpec.post enc Tryz.prog Tryz.f3 false true false false):=by
  refine Vm.law_lifted (C:=Tryz.checked) (fn:=Tryz.f3) (A:=W.Am) (S:=partsS) (tb:=4) started own (by kernel_rfl) Tryz.func3
    (ChangeSpec.witness_shaped (enc:=enc) (C:=Tryz.checked) (os:=os) (X:=fun w _=>laidMetH Tryz.prog Rows.scanOneRow.laid w) false (World.laidAll Tryz.prog os Rows.scanOneRow.laid) #[.slice none 0 0,.slice none 0 0] 8 (World.laidAll_os _ _ _)
      (World.shaped_of_ZipB (by kernel_rfl) (by kernel_rfl)) (by kernel_rfl) (by kernel_rfl) (by kernel_rfl)
      (by rw [MakeChecks.laidMetH_plain _ _ _ (by kernel_rfl)];exact laidMet_laidAll _ (by kernel_rfl) (by kernel_rfl)))
    rfl laidOut (by kernel_rfl) (by kernel_rfl) (by kernel_rfl) bo3 rfl un4 ?_ (fun W hW=>@Go.Proofs.W.primAm ⟨Vm.im0 W⟩ (someMax hW)) ?_
  · intro ds h
    match ds,h with
    | [a,b],_=>exact ⟨rfl,rfl,rfl⟩
  · intro Ds h
    obtain ⟨xs,r,rfl,-,hx,h⟩:=Vm.typedA_slice un22 (by kernel_rfl) h
    obtain ⟨ys,r,rfl,-,hy,h⟩:=Vm.typedA_slice un23 (by kernel_rfl) h
    cases Vm.typedA_nil h
    obtain ⟨l,rfl,ht⟩:=W.rules_of_typed hx
    obtain ⟨w,rfl⟩:=Vm.typedE_ints un3 (by kernel_rfl) hy
    exact W.run_of_yesM (W.one_law l ht w)
theorem one_row_holds : Rows.ScanOneSaid:=
  OpenClaim.holds_of_wide 3 Tryz.f3 rfl rfl rfl rfl rfl rfl rfl ⟨rfl,rfl,rfl,rfl,rfl⟩ rfl rfl rfl rfl rfl (by kernel_rfl) Tryz.func3 (by kernel_rfl)
    (of_decide_eq_true (by kernel_rfl)) (by unfold Func.isWrapper;first | (rw [if_pos (by decide +kernel)];kernel_rfl) | (rw [if_neg (by decide +kernel)];exact ⟨rfl,rfl⟩))
    (fun os started H enc _=>one_lifted os started H enc)
theorem one_holds : Rows.ScanOneCardSaid:=
  Claim7.holds_tied_plain_at .later [] [.data,.pinned] true (true, "9f4d365808522005e5bfbd58bb1cdc72ff78e6e90e4efe95f40c626c45ca9630") true one_row_holds (fun _ h=>by cases h) (by kernel_rfl) (fun _ h=>by cases h) scanOne_row_tie rfl ⟨rfl,rfl⟩ (by kernel_rfl) rfl
    (fun f fn hf hfn=>by
      obtain rfl : f = 3:=Option.some.inj ((show Tryz.prog.funcNamed "reedpen/reedpenlaw09.ScanOne" = some 3 by kernel_rfl).symm.trans hf) |>.symm
      obtain rfl : fn = Tryz.f3:=(Option.some.inj (Tryz.func3.symm.trans hfn)).symm
      exact ⟨by kernel_rfl,fun j t ht=>by
        have hm : t ∈ partsS:=by
          have h0 : (Tryz.f3.params.toList.all fun t=>partsS.contains t) = true:=by kernel_rfl
          have h1 : t ∈ Tryz.f3.params.toList:=by simpa using Array.mem_of_getElem? ht
          simpa using List.all_eq_true.1 h0 t h1
        have hall : (partsS.all fun u=>!Tryz.prog.wantsStandIn u) = true:=by kernel_rfl
        exact (show Tryz.prog.wantsStandIn t = false by simpa using List.all_eq_true.1 hall t hm)⟩)
    (by kernel_rfl)
end Go.Proofs.YtiaonafhegbhjaaGreatDoor
