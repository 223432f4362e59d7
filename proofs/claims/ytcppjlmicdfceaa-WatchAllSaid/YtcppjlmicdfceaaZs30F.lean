/- Facts on the types and functions of this seat, by program. -/
import Derived.Test.YtcppjlmicdfceaaProg
import Derived.Test.YtcppjlmicdfceaaZzP6
import Derived.KernelRfl
set_option linter.unusedVariables false
namespace Go.Proofs.Zs30
open Go Vm
theorem sz1 : sizeT Try.prog 1 = some 1 := by kernel_rfl
theorem ag1 : isAggT Try.prog 1 = some false := by kernel_rfl
theorem zr1 : zeroT Try.prog 1 = some (.niln) := by kernel_rfl
theorem by1 : bytesT Try.prog 1 = some 8 := by kernel_rfl
theorem un2 : Try.prog.underlying 2 = some (.int .i64) := by kernel_rfl
theorem sz2 : sizeT Try.prog 2 = some 1 := by kernel_rfl
theorem ag2 : isAggT Try.prog 2 = some false := by kernel_rfl
theorem zr2 : zeroT Try.prog 2 = some (.int .i64 0) := by kernel_rfl
theorem by2 : bytesT Try.prog 2 = some 8 := by kernel_rfl
theorem un3 : Try.prog.underlying 3 = some (.int .i64) := by kernel_rfl
theorem sz3 : sizeT Try.prog 3 = some 1 := by kernel_rfl
theorem ag3 : isAggT Try.prog 3 = some false := by kernel_rfl
theorem zr3 : zeroT Try.prog 3 = some (.int .i64 0) := by kernel_rfl
theorem by3 : bytesT Try.prog 3 = some 8 := by kernel_rfl
theorem un4 : Try.prog.underlying 4 = some .bool := by kernel_rfl
theorem sz4 : sizeT Try.prog 4 = some 1 := by kernel_rfl
theorem ag4 : isAggT Try.prog 4 = some false := by kernel_rfl
theorem zr4 : zeroT Try.prog 4 = some (.bool false) := by kernel_rfl
theorem by4 : bytesT Try.prog 4 = some 1 := by kernel_rfl
theorem un5 : Try.prog.underlying 5 = some (.int .u8) := by kernel_rfl
theorem sz5 : sizeT Try.prog 5 = some 1 := by kernel_rfl
theorem ag5 : isAggT Try.prog 5 = some false := by kernel_rfl
theorem zr5 : zeroT Try.prog 5 = some (.int .u8 0) := by kernel_rfl
theorem by5 : bytesT Try.prog 5 = some 1 := by kernel_rfl
theorem un9 : Try.prog.underlying 9 = some .string := by kernel_rfl
theorem sz9 : sizeT Try.prog 9 = some 1 := by kernel_rfl
theorem ag9 : isAggT Try.prog 9 = some false := by kernel_rfl
theorem zr9 : zeroT Try.prog 9 = some (.str []) := by kernel_rfl
theorem by9 : bytesT Try.prog 9 = some 16 := by kernel_rfl
theorem sz20 : sizeT Try.prog 20 = some 1 := by kernel_rfl
theorem ag20 : isAggT Try.prog 20 = some false := by kernel_rfl
theorem zr20 : zeroT Try.prog 20 = some (.nili) := by kernel_rfl
theorem by20 : bytesT Try.prog 20 = some 16 := by kernel_rfl
theorem un21 : Try.prog.underlying 21 = some (.int .i32) := by kernel_rfl
theorem sz21 : sizeT Try.prog 21 = some 1 := by kernel_rfl
theorem ag21 : isAggT Try.prog 21 = some false := by kernel_rfl
theorem zr21 : zeroT Try.prog 21 = some (.int .i32 0) := by kernel_rfl
theorem by21 : bytesT Try.prog 21 = some 4 := by kernel_rfl
theorem un22 : Try.prog.underlying 22 = some (.slice 36) := by kernel_rfl
theorem sz22 : sizeT Try.prog 22 = some 1 := by kernel_rfl
theorem ag22 : isAggT Try.prog 22 = some false := by kernel_rfl
theorem zr22 : zeroT Try.prog 22 = some (.sl true []) := by kernel_rfl
theorem by22 : bytesT Try.prog 22 = some 24 := by kernel_rfl
theorem el22 : elemT Try.prog 22 = some 36 := by kernel_rfl
theorem sz23 : sizeT Try.prog 23 = some 1 := by kernel_rfl
theorem ag23 : isAggT Try.prog 23 = some false := by kernel_rfl
theorem zr23 : zeroT Try.prog 23 = some (.niln) := by kernel_rfl
theorem by23 : bytesT Try.prog 23 = some 8 := by kernel_rfl
theorem sz24 : sizeT Try.prog 24 = some 1 := by kernel_rfl
theorem ag24 : isAggT Try.prog 24 = some false := by kernel_rfl
theorem zr24 : zeroT Try.prog 24 = some (.niln) := by kernel_rfl
theorem by24 : bytesT Try.prog 24 = some 8 := by kernel_rfl
theorem sz25 : sizeT Try.prog 25 = some 1 := by kernel_rfl
theorem ag25 : isAggT Try.prog 25 = some false := by kernel_rfl
theorem zr25 : zeroT Try.prog 25 = some (.niln) := by kernel_rfl
theorem by25 : bytesT Try.prog 25 = some 8 := by kernel_rfl
theorem sz26 : sizeT Try.prog 26 = some 1 := by kernel_rfl
theorem ag26 : isAggT Try.prog 26 = some false := by kernel_rfl
theorem zr26 : zeroT Try.prog 26 = some (.niln) := by kernel_rfl
theorem by26 : bytesT Try.prog 26 = some 8 := by kernel_rfl
theorem un27 : Try.prog.underlying 27 = some (.slice 30) := by kernel_rfl
theorem sz27 : sizeT Try.prog 27 = some 1 := by kernel_rfl
theorem ag27 : isAggT Try.prog 27 = some false := by kernel_rfl
theorem zr27 : zeroT Try.prog 27 = some (.sl true []) := by kernel_rfl
theorem by27 : bytesT Try.prog 27 = some 24 := by kernel_rfl
theorem el27 : elemT Try.prog 27 = some 30 := by kernel_rfl
theorem sz28 : sizeT Try.prog 28 = some 1 := by kernel_rfl
theorem ag28 : isAggT Try.prog 28 = some false := by kernel_rfl
theorem zr28 : zeroT Try.prog 28 = some (.niln) := by kernel_rfl
theorem by28 : bytesT Try.prog 28 = some 8 := by kernel_rfl
theorem sz29 : sizeT Try.prog 29 = some 1 := by kernel_rfl
theorem ag29 : isAggT Try.prog 29 = some false := by kernel_rfl
theorem zr29 : zeroT Try.prog 29 = some (.niln) := by kernel_rfl
theorem by29 : bytesT Try.prog 29 = some 8 := by kernel_rfl
theorem un30 : Try.prog.underlying 30 = some (.array 4 3) := by kernel_rfl
theorem sz30 : sizeT Try.prog 30 = some 4 := by kernel_rfl
theorem ag30 : isAggT Try.prog 30 = some true := by kernel_rfl
theorem zr30 : zeroT Try.prog 30 = some (.agg [.int .i64 0, .int .i64 0, .int .i64 0, .int .i64 0]) := by kernel_rfl
theorem by30 : bytesT Try.prog 30 = some 32 := by kernel_rfl
theorem bd30 (ps : List (Nat × D)) : buildD Try.prog 30 ps = (fillD (fun i => some (i * 1, 1)) (D.cells (.agg [.int .i64 0, .int .i64 0, .int .i64 0, .int .i64 0])) ps).map .agg := by kernel_rfl
theorem un31 : Try.prog.underlying 31 = some (.slice 3) := by kernel_rfl
theorem sz31 : sizeT Try.prog 31 = some 1 := by kernel_rfl
theorem ag31 : isAggT Try.prog 31 = some false := by kernel_rfl
theorem zr31 : zeroT Try.prog 31 = some (.sl true []) := by kernel_rfl
theorem by31 : bytesT Try.prog 31 = some 24 := by kernel_rfl
theorem el31 : elemT Try.prog 31 = some 3 := by kernel_rfl
theorem sz32 : sizeT Try.prog 32 = some 1 := by kernel_rfl
theorem ag32 : isAggT Try.prog 32 = some false := by kernel_rfl
theorem zr32 : zeroT Try.prog 32 = some (.niln) := by kernel_rfl
theorem by32 : bytesT Try.prog 32 = some 8 := by kernel_rfl
theorem sz33 : sizeT Try.prog 33 = some 1 := by kernel_rfl
theorem ag33 : isAggT Try.prog 33 = some false := by kernel_rfl
theorem zr33 : zeroT Try.prog 33 = some (.niln) := by kernel_rfl
theorem by33 : bytesT Try.prog 33 = some 8 := by kernel_rfl
theorem sz34 : sizeT Try.prog 34 = some 1 := by kernel_rfl
theorem ag34 : isAggT Try.prog 34 = some false := by kernel_rfl
theorem zr34 : zeroT Try.prog 34 = some (.niln) := by kernel_rfl
theorem by34 : bytesT Try.prog 34 = some 8 := by kernel_rfl
theorem sz35 : sizeT Try.prog 35 = some 6 := by kernel_rfl
theorem ag35 : isAggT Try.prog 35 = some true := by kernel_rfl
theorem zr35 : zeroT Try.prog 35 = some (.agg [.int .i64 0, .int .i64 0, .int .i64 0, .int .i64 0, .int .i64 0, .int .i64 0]) := by kernel_rfl
theorem by35 : bytesT Try.prog 35 = some 48 := by kernel_rfl
theorem fd35_0 : fieldT Try.prog 35 0 = some (0, 3) := by kernel_rfl
theorem fd35_1 : fieldT Try.prog 35 1 = some (1, 3) := by kernel_rfl
theorem fd35_2 : fieldT Try.prog 35 2 = some (2, 3) := by kernel_rfl
theorem fd35_3 : fieldT Try.prog 35 3 = some (3, 3) := by kernel_rfl
theorem fd35_4 : fieldT Try.prog 35 4 = some (4, 3) := by kernel_rfl
theorem fd35_5 : fieldT Try.prog 35 5 = some (5, 3) := by kernel_rfl
theorem bd35 (ps : List (Nat × D)) : buildD Try.prog 35 ps = (fillD (fun i => ([(0, 1), (1, 1), (2, 1), (3, 1), (4, 1), (5, 1)] : List (Nat × Nat))[i]?) (D.cells (.agg [.int .i64 0, .int .i64 0, .int .i64 0, .int .i64 0, .int .i64 0, .int .i64 0])) ps).map .agg := by kernel_rfl
theorem sz36 : sizeT Try.prog 36 = some 6 := by kernel_rfl
theorem ag36 : isAggT Try.prog 36 = some true := by kernel_rfl
theorem zr36 : zeroT Try.prog 36 = some (.agg [.int .i64 0, .int .i64 0, .int .i64 0, .int .i64 0, .int .i64 0, .int .i64 0]) := by kernel_rfl
theorem by36 : bytesT Try.prog 36 = some 48 := by kernel_rfl
theorem fd36_0 : fieldT Try.prog 36 0 = some (0, 3) := by kernel_rfl
theorem fd36_1 : fieldT Try.prog 36 1 = some (1, 3) := by kernel_rfl
theorem fd36_2 : fieldT Try.prog 36 2 = some (2, 3) := by kernel_rfl
theorem fd36_3 : fieldT Try.prog 36 3 = some (3, 3) := by kernel_rfl
theorem fd36_4 : fieldT Try.prog 36 4 = some (4, 3) := by kernel_rfl
theorem fd36_5 : fieldT Try.prog 36 5 = some (5, 3) := by kernel_rfl
theorem bd36 (ps : List (Nat × D)) : buildD Try.prog 36 ps = (fillD (fun i => ([(0, 1), (1, 1), (2, 1), (3, 1), (4, 1), (5, 1)] : List (Nat × Nat))[i]?) (D.cells (.agg [.int .i64 0, .int .i64 0, .int .i64 0, .int .i64 0, .int .i64 0, .int .i64 0])) ps).map .agg := by kernel_rfl
theorem un37 : Try.prog.underlying 37 = some (.slice 40) := by kernel_rfl
theorem sz37 : sizeT Try.prog 37 = some 1 := by kernel_rfl
theorem ag37 : isAggT Try.prog 37 = some false := by kernel_rfl
theorem zr37 : zeroT Try.prog 37 = some (.sl true []) := by kernel_rfl
theorem by37 : bytesT Try.prog 37 = some 24 := by kernel_rfl
theorem el37 : elemT Try.prog 37 = some 40 := by kernel_rfl
theorem sz38 : sizeT Try.prog 38 = some 1 := by kernel_rfl
theorem ag38 : isAggT Try.prog 38 = some false := by kernel_rfl
theorem zr38 : zeroT Try.prog 38 = some (.niln) := by kernel_rfl
theorem by38 : bytesT Try.prog 38 = some 8 := by kernel_rfl
theorem sz39 : sizeT Try.prog 39 = some 1 := by kernel_rfl
theorem ag39 : isAggT Try.prog 39 = some true := by kernel_rfl
theorem zr39 : zeroT Try.prog 39 = some (.agg [.niln]) := by kernel_rfl
theorem by39 : bytesT Try.prog 39 = some 8 := by kernel_rfl
theorem fd39_0 : fieldT Try.prog 39 0 = some (0, 34) := by kernel_rfl
theorem bd39 (ps : List (Nat × D)) : buildD Try.prog 39 ps = (fillD (fun i => ([(0, 1)] : List (Nat × Nat))[i]?) (D.cells (.agg [.niln])) ps).map .agg := by kernel_rfl
theorem sz40 : sizeT Try.prog 40 = some 1 := by kernel_rfl
theorem ag40 : isAggT Try.prog 40 = some true := by kernel_rfl
theorem zr40 : zeroT Try.prog 40 = some (.agg [.niln]) := by kernel_rfl
theorem by40 : bytesT Try.prog 40 = some 8 := by kernel_rfl
theorem fd40_0 : fieldT Try.prog 40 0 = some (0, 34) := by kernel_rfl
theorem bd40 (ps : List (Nat × D)) : buildD Try.prog 40 ps = (fillD (fun i => ([(0, 1)] : List (Nat × Nat))[i]?) (D.cells (.agg [.niln])) ps).map .agg := by kernel_rfl
theorem sz41 : sizeT Try.prog 41 = some 1 := by kernel_rfl
theorem ag41 : isAggT Try.prog 41 = some false := by kernel_rfl
theorem zr41 : zeroT Try.prog 41 = some (.niln) := by kernel_rfl
theorem by41 : bytesT Try.prog 41 = some 8 := by kernel_rfl
theorem sz42 : sizeT Try.prog 42 = some 1 := by kernel_rfl
theorem ag42 : isAggT Try.prog 42 = some false := by kernel_rfl
theorem zr42 : zeroT Try.prog 42 = some (.niln) := by kernel_rfl
theorem by42 : bytesT Try.prog 42 = some 8 := by kernel_rfl
theorem sz43 : sizeT Try.prog 43 = some 1 := by kernel_rfl
theorem ag43 : isAggT Try.prog 43 = some false := by kernel_rfl
theorem zr43 : zeroT Try.prog 43 = some (.niln) := by kernel_rfl
theorem by43 : bytesT Try.prog 43 = some 8 := by kernel_rfl
theorem sz44 : sizeT Try.prog 44 = some 1 := by kernel_rfl
theorem ag44 : isAggT Try.prog 44 = some false := by kernel_rfl
theorem zr44 : zeroT Try.prog 44 = some (.niln) := by kernel_rfl
theorem by44 : bytesT Try.prog 44 = some 8 := by kernel_rfl
theorem sz45 : sizeT Try.prog 45 = some 1 := by kernel_rfl
theorem ag45 : isAggT Try.prog 45 = some false := by kernel_rfl
theorem zr45 : zeroT Try.prog 45 = some (.niln) := by kernel_rfl
theorem by45 : bytesT Try.prog 45 = some 8 := by kernel_rfl
theorem sz46 : sizeT Try.prog 46 = some 1 := by kernel_rfl
theorem ag46 : isAggT Try.prog 46 = some false := by kernel_rfl
theorem zr46 : zeroT Try.prog 46 = some (.niln) := by kernel_rfl
theorem by46 : bytesT Try.prog 46 = some 8 := by kernel_rfl
theorem sz47 : sizeT Try.prog 47 = some 1 := by kernel_rfl
theorem ag47 : isAggT Try.prog 47 = some false := by kernel_rfl
theorem zr47 : zeroT Try.prog 47 = some (.niln) := by kernel_rfl
theorem by47 : bytesT Try.prog 47 = some 8 := by kernel_rfl
theorem sz48 : sizeT Try.prog 48 = some 1 := by kernel_rfl
theorem ag48 : isAggT Try.prog 48 = some false := by kernel_rfl
theorem zr48 : zeroT Try.prog 48 = some (.niln) := by kernel_rfl
theorem by48 : bytesT Try.prog 48 = some 8 := by kernel_rfl
theorem sz49 : sizeT Try.prog 49 = some 1 := by kernel_rfl
theorem ag49 : isAggT Try.prog 49 = some false := by kernel_rfl
theorem zr49 : zeroT Try.prog 49 = some (.niln) := by kernel_rfl
theorem by49 : bytesT Try.prog 49 = some 8 := by kernel_rfl
theorem sz50 : sizeT Try.prog 50 = some 1 := by kernel_rfl
theorem ag50 : isAggT Try.prog 50 = some false := by kernel_rfl
theorem zr50 : zeroT Try.prog 50 = some (.niln) := by kernel_rfl
theorem by50 : bytesT Try.prog 50 = some 8 := by kernel_rfl
theorem un53 : Try.prog.underlying 53 = some (.array 0 16) := by kernel_rfl
theorem ag53 : isAggT Try.prog 53 = some true := by kernel_rfl
theorem zr53 : zeroT Try.prog 53 = some (.agg []) := by kernel_rfl
theorem by53 : bytesT Try.prog 53 = some 0 := by kernel_rfl
theorem bd53 (ps : List (Nat × D)) : buildD Try.prog 53 ps = (fillD (fun i => some (i * 1, 1)) (D.cells (.agg [])) ps).map .agg := by kernel_rfl
theorem sz56 : sizeT Try.prog 56 = some 1 := by kernel_rfl
theorem ag56 : isAggT Try.prog 56 = some false := by kernel_rfl
theorem zr56 : zeroT Try.prog 56 = some (.niln) := by kernel_rfl
theorem by56 : bytesT Try.prog 56 = some 8 := by kernel_rfl
theorem un57 : Try.prog.underlying 57 = some (.int .u32) := by kernel_rfl
theorem sz57 : sizeT Try.prog 57 = some 1 := by kernel_rfl
theorem ag57 : isAggT Try.prog 57 = some false := by kernel_rfl
theorem zr57 : zeroT Try.prog 57 = some (.int .u32 0) := by kernel_rfl
theorem by57 : bytesT Try.prog 57 = some 4 := by kernel_rfl
theorem sz60 : sizeT Try.prog 60 = some 1 := by kernel_rfl
theorem ag60 : isAggT Try.prog 60 = some false := by kernel_rfl
theorem zr60 : zeroT Try.prog 60 = some (.niln) := by kernel_rfl
theorem by60 : bytesT Try.prog 60 = some 8 := by kernel_rfl
theorem un61 : Try.prog.underlying 61 = some (.pointer 5) := by kernel_rfl
theorem sz61 : sizeT Try.prog 61 = some 1 := by kernel_rfl
theorem ag61 : isAggT Try.prog 61 = some false := by kernel_rfl
theorem zr61 : zeroT Try.prog 61 = some (.nilp) := by kernel_rfl
theorem by61 : bytesT Try.prog 61 = some 8 := by kernel_rfl
theorem bo2 : bodied Try.prog 2 = true := by kernel_rfl
theorem bo3 : bodied Try.prog 3 = true := by kernel_rfl
theorem bo4 : bodied Try.prog 4 = true := by kernel_rfl
theorem bo5 : bodied Try.prog 5 = true := by kernel_rfl
theorem bo6 : bodied Try.prog 6 = true := by kernel_rfl
theorem bo7 : bodied Try.prog 7 = true := by kernel_rfl
theorem bo8 : bodied Try.prog 8 = true := by kernel_rfl
theorem bo9 : bodied Try.prog 9 = true := by kernel_rfl
theorem bo10 : bodied Try.prog 10 = true := by kernel_rfl
theorem bo11 : bodied Try.prog 11 = true := by kernel_rfl
theorem bo12 : bodied Try.prog 12 = true := by kernel_rfl
theorem bo13 : bodied Try.prog 13 = true := by kernel_rfl
theorem bo14 : bodied Try.prog 14 = true := by kernel_rfl
theorem bo15 : bodied Try.prog 15 = true := by kernel_rfl
theorem bo16 : bodied Try.prog 16 = true := by kernel_rfl
theorem bo17 : bodied Try.prog 17 = true := by kernel_rfl
theorem bo18 : bodied Try.prog 18 = true := by kernel_rfl
theorem bo19 : bodied Try.prog 19 = true := by kernel_rfl
theorem bo20 : bodied Try.prog 20 = true := by kernel_rfl
theorem bo21 : bodied Try.prog 21 = true := by kernel_rfl
theorem bo22 : bodied Try.prog 22 = true := by kernel_rfl
theorem bo23 : bodied Try.prog 23 = true := by kernel_rfl
theorem bo24 : bodied Try.prog 24 = true := by kernel_rfl
theorem bo25 : bodied Try.prog 25 = true := by kernel_rfl
theorem bo26 : bodied Try.prog 26 = true := by kernel_rfl
theorem bo27 : bodied Try.prog 27 = true := by kernel_rfl
theorem bo28 : bodied Try.prog 28 = true := by kernel_rfl
theorem bo29 : bodied Try.prog 29 = true := by kernel_rfl
theorem bo30 : bodied Try.prog 30 = true := by kernel_rfl
theorem bo31 : bodied Try.prog 31 = true := by kernel_rfl
attribute [go_sem] sz1 ag1 zr1 by1 un2 sz2 ag2 zr2 by2 un3 sz3 ag3 zr3 by3 un4 sz4 ag4 zr4 by4 un5 sz5 ag5 zr5 by5 un9 sz9 ag9 zr9 by9 sz20 ag20 zr20 by20 un21 sz21 ag21 zr21 by21 un22 sz22
attribute [go_sem] ag22 zr22 by22 el22 sz23 ag23 zr23 by23 sz24 ag24 zr24 by24 sz25 ag25 zr25 by25 sz26 ag26 zr26 by26 un27 sz27 ag27 zr27 by27 el27 sz28 ag28 zr28 by28 sz29 ag29 zr29 by29 un30 sz30 ag30 zr30 by30 bd30
attribute [go_sem] un31 sz31 ag31 zr31 by31 el31 sz32 ag32 zr32 by32 sz33 ag33 zr33 by33 sz34 ag34 zr34 by34 sz35 ag35 zr35 by35 fd35_0 fd35_1 fd35_2 fd35_3 fd35_4 fd35_5 bd35 sz36 ag36 zr36 by36 fd36_0 fd36_1 fd36_2 fd36_3 fd36_4 fd36_5 bd36
attribute [go_sem] un37 sz37 ag37 zr37 by37 el37 sz38 ag38 zr38 by38 sz39 ag39 zr39 by39 fd39_0 bd39 sz40 ag40 zr40 by40 fd40_0 bd40 sz41 ag41 zr41 by41 sz42 ag42 zr42 by42 sz43 ag43 zr43 by43 sz44 ag44 zr44 by44 sz45 ag45
attribute [go_sem] zr45 by45 sz46 ag46 zr46 by46 sz47 ag47 zr47 by47 sz48 ag48 zr48 by48 sz49 ag49 zr49 by49 sz50 ag50 zr50 by50 un53 ag53 zr53 by53 bd53 sz56 ag56 zr56 by56 un57 sz57 ag57 zr57 by57 sz60 ag60 zr60 by60
attribute [go_sem] un61 sz61 ag61 zr61 by61
end Go.Proofs.Zs30
