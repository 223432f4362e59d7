/- Texts that stand behind this claim, one after the other. -/
import Derived.Test.YthfbnjkijkbpcaaGreatDoorProg
import Derived.Test.YthfbnjkijkbpcaaGreatDoorM5
import Derived.KernelRfl
import Derived.Test.YthfbnjkijkbpcaaGreatDoorM3
import Derived.Shelf.Strings.Split
import Derived.Shelf.Strings.Cut
import Derived.Shelf.Small.Wraps
import Derived.Shelf.Strings.Prefix
import Derived.Shelf.Sort.Plain
import Derived.Shelf.Slices.CompactI
import Derived.Carry
import Derived.ProofKit
/- Facts on the types and functions of this seat, by program. -/
section
set_option linter.unusedVariables false
namespace Go.Proofs.Zs7z
open Go Vm
theorem sz1 : sizeT Tryz.prog 1 = some 1 := by kernel_rfl
theorem ag1 : isAggT Tryz.prog 1 = some false := by kernel_rfl
theorem zr1 : zeroT Tryz.prog 1 = some (.niln) := by kernel_rfl
theorem by1 : bytesT Tryz.prog 1 = some 8 := by kernel_rfl
theorem un2 : Tryz.prog.underlying 2 = some (.int .i64) := by kernel_rfl
theorem sz2 : sizeT Tryz.prog 2 = some 1 := by kernel_rfl
theorem ag2 : isAggT Tryz.prog 2 = some false := by kernel_rfl
theorem zr2 : zeroT Tryz.prog 2 = some (.int .i64 0) := by kernel_rfl
theorem by2 : bytesT Tryz.prog 2 = some 8 := by kernel_rfl
theorem un3 : Tryz.prog.underlying 3 = some (.int .i64) := by kernel_rfl
theorem sz3 : sizeT Tryz.prog 3 = some 1 := by kernel_rfl
theorem ag3 : isAggT Tryz.prog 3 = some false := by kernel_rfl
theorem zr3 : zeroT Tryz.prog 3 = some (.int .i64 0) := by kernel_rfl
theorem by3 : bytesT Tryz.prog 3 = some 8 := by kernel_rfl
theorem un4 : Tryz.prog.underlying 4 = some .bool := by kernel_rfl
theorem sz4 : sizeT Tryz.prog 4 = some 1 := by kernel_rfl
theorem ag4 : isAggT Tryz.prog 4 = some false := by kernel_rfl
theorem zr4 : zeroT Tryz.prog 4 = some (.bool false) := by kernel_rfl
theorem by4 : bytesT Tryz.prog 4 = some 1 := by kernel_rfl
theorem un5 : Tryz.prog.underlying 5 = some (.int .u8) := by kernel_rfl
theorem sz5 : sizeT Tryz.prog 5 = some 1 := by kernel_rfl
theorem ag5 : isAggT Tryz.prog 5 = some false := by kernel_rfl
theorem zr5 : zeroT Tryz.prog 5 = some (.int .u8 0) := by kernel_rfl
theorem by5 : bytesT Tryz.prog 5 = some 1 := by kernel_rfl
theorem un9 : Tryz.prog.underlying 9 = some .string := by kernel_rfl
theorem sz9 : sizeT Tryz.prog 9 = some 1 := by kernel_rfl
theorem ag9 : isAggT Tryz.prog 9 = some false := by kernel_rfl
theorem zr9 : zeroT Tryz.prog 9 = some (.str []) := by kernel_rfl
theorem by9 : bytesT Tryz.prog 9 = some 16 := by kernel_rfl
theorem sz20 : sizeT Tryz.prog 20 = some 1 := by kernel_rfl
theorem ag20 : isAggT Tryz.prog 20 = some false := by kernel_rfl
theorem zr20 : zeroT Tryz.prog 20 = some (.nili) := by kernel_rfl
theorem by20 : bytesT Tryz.prog 20 = some 16 := by kernel_rfl
theorem un21 : Tryz.prog.underlying 21 = some (.int .i32) := by kernel_rfl
theorem sz21 : sizeT Tryz.prog 21 = some 1 := by kernel_rfl
theorem ag21 : isAggT Tryz.prog 21 = some false := by kernel_rfl
theorem zr21 : zeroT Tryz.prog 21 = some (.int .i32 0) := by kernel_rfl
theorem by21 : bytesT Tryz.prog 21 = some 4 := by kernel_rfl
theorem un22 : Tryz.prog.underlying 22 = some (.slice 40) := by kernel_rfl
theorem sz22 : sizeT Tryz.prog 22 = some 1 := by kernel_rfl
theorem ag22 : isAggT Tryz.prog 22 = some false := by kernel_rfl
theorem zr22 : zeroT Tryz.prog 22 = some (.sl true []) := by kernel_rfl
theorem by22 : bytesT Tryz.prog 22 = some 24 := by kernel_rfl
theorem el22 : elemT Tryz.prog 22 = some 40 := by kernel_rfl
theorem sz23 : sizeT Tryz.prog 23 = some 1 := by kernel_rfl
theorem ag23 : isAggT Tryz.prog 23 = some false := by kernel_rfl
theorem zr23 : zeroT Tryz.prog 23 = some (.niln) := by kernel_rfl
theorem by23 : bytesT Tryz.prog 23 = some 8 := by kernel_rfl
theorem sz24 : sizeT Tryz.prog 24 = some 1 := by kernel_rfl
theorem ag24 : isAggT Tryz.prog 24 = some false := by kernel_rfl
theorem zr24 : zeroT Tryz.prog 24 = some (.niln) := by kernel_rfl
theorem by24 : bytesT Tryz.prog 24 = some 8 := by kernel_rfl
theorem un25 : Tryz.prog.underlying 25 = some (.slice 62) := by kernel_rfl
theorem sz25 : sizeT Tryz.prog 25 = some 1 := by kernel_rfl
theorem ag25 : isAggT Tryz.prog 25 = some false := by kernel_rfl
theorem zr25 : zeroT Tryz.prog 25 = some (.sl true []) := by kernel_rfl
theorem by25 : bytesT Tryz.prog 25 = some 24 := by kernel_rfl
theorem el25 : elemT Tryz.prog 25 = some 62 := by kernel_rfl
theorem un26 : Tryz.prog.underlying 26 = some (.slice 3) := by kernel_rfl
theorem sz26 : sizeT Tryz.prog 26 = some 1 := by kernel_rfl
theorem ag26 : isAggT Tryz.prog 26 = some false := by kernel_rfl
theorem zr26 : zeroT Tryz.prog 26 = some (.sl true []) := by kernel_rfl
theorem by26 : bytesT Tryz.prog 26 = some 24 := by kernel_rfl
theorem el26 : elemT Tryz.prog 26 = some 3 := by kernel_rfl
theorem sz27 : sizeT Tryz.prog 27 = some 2 := by kernel_rfl
theorem ag27 : isAggT Tryz.prog 27 = some true := by kernel_rfl
theorem by27 : bytesT Tryz.prog 27 = some 48 := by kernel_rfl
theorem fd27_0 : fieldT Tryz.prog 27 0 = some (0, 25) := by kernel_rfl
theorem fd27_1 : fieldT Tryz.prog 27 1 = some (1, 26) := by kernel_rfl
theorem sz28 : sizeT Tryz.prog 28 = some 2 := by kernel_rfl
theorem ag28 : isAggT Tryz.prog 28 = some true := by kernel_rfl
theorem by28 : bytesT Tryz.prog 28 = some 48 := by kernel_rfl
theorem fd28_0 : fieldT Tryz.prog 28 0 = some (0, 25) := by kernel_rfl
theorem fd28_1 : fieldT Tryz.prog 28 1 = some (1, 26) := by kernel_rfl
theorem un29 : Tryz.prog.underlying 29 = some (.int .i64) := by kernel_rfl
theorem sz29 : sizeT Tryz.prog 29 = some 1 := by kernel_rfl
theorem ag29 : isAggT Tryz.prog 29 = some false := by kernel_rfl
theorem zr29 : zeroT Tryz.prog 29 = some (.int .i64 0) := by kernel_rfl
theorem by29 : bytesT Tryz.prog 29 = some 8 := by kernel_rfl
theorem sz31 : sizeT Tryz.prog 31 = some 1 := by kernel_rfl
theorem ag31 : isAggT Tryz.prog 31 = some false := by kernel_rfl
theorem zr31 : zeroT Tryz.prog 31 = some (.niln) := by kernel_rfl
theorem by31 : bytesT Tryz.prog 31 = some 8 := by kernel_rfl
theorem sz33 : sizeT Tryz.prog 33 = some 1 := by kernel_rfl
theorem ag33 : isAggT Tryz.prog 33 = some false := by kernel_rfl
theorem zr33 : zeroT Tryz.prog 33 = some (.niln) := by kernel_rfl
theorem by33 : bytesT Tryz.prog 33 = some 8 := by kernel_rfl
theorem sz34 : sizeT Tryz.prog 34 = some 1 := by kernel_rfl
theorem ag34 : isAggT Tryz.prog 34 = some false := by kernel_rfl
theorem zr34 : zeroT Tryz.prog 34 = some (.niln) := by kernel_rfl
theorem by34 : bytesT Tryz.prog 34 = some 8 := by kernel_rfl
theorem un35 : Tryz.prog.underlying 35 = some (.slice 42) := by kernel_rfl
theorem sz35 : sizeT Tryz.prog 35 = some 1 := by kernel_rfl
theorem ag35 : isAggT Tryz.prog 35 = some false := by kernel_rfl
theorem zr35 : zeroT Tryz.prog 35 = some (.sl true []) := by kernel_rfl
theorem by35 : bytesT Tryz.prog 35 = some 24 := by kernel_rfl
theorem el35 : elemT Tryz.prog 35 = some 42 := by kernel_rfl
theorem sz37 : sizeT Tryz.prog 37 = some 1 := by kernel_rfl
theorem ag37 : isAggT Tryz.prog 37 = some false := by kernel_rfl
theorem zr37 : zeroT Tryz.prog 37 = some (.niln) := by kernel_rfl
theorem by37 : bytesT Tryz.prog 37 = some 8 := by kernel_rfl
theorem un38 : Tryz.prog.underlying 38 = some (.int .u16) := by kernel_rfl
theorem sz38 : sizeT Tryz.prog 38 = some 1 := by kernel_rfl
theorem ag38 : isAggT Tryz.prog 38 = some false := by kernel_rfl
theorem zr38 : zeroT Tryz.prog 38 = some (.int .u16 0) := by kernel_rfl
theorem by38 : bytesT Tryz.prog 38 = some 2 := by kernel_rfl
theorem sz39 : sizeT Tryz.prog 39 = some 3 := by kernel_rfl
theorem ag39 : isAggT Tryz.prog 39 = some true := by kernel_rfl
theorem zr39 : zeroT Tryz.prog 39 = some (.agg [.int .u8 0, .int .u16 0, .sl true []]) := by kernel_rfl
theorem by39 : bytesT Tryz.prog 39 = some 32 := by kernel_rfl
theorem fd39_0 : fieldT Tryz.prog 39 0 = some (0, 5) := by kernel_rfl
theorem fd39_1 : fieldT Tryz.prog 39 1 = some (1, 38) := by kernel_rfl
theorem fd39_2 : fieldT Tryz.prog 39 2 = some (2, 22) := by kernel_rfl
theorem bd39 (ps : List (Nat × D)) : buildD Tryz.prog 39 ps = (fillD (fun i => ([(0, 1), (1, 1), (2, 1)] : List (Nat × Nat))[i]?) (D.cells (.agg [.int .u8 0, .int .u16 0, .sl true []])) ps).map .agg := by kernel_rfl
theorem sz40 : sizeT Tryz.prog 40 = some 3 := by kernel_rfl
theorem ag40 : isAggT Tryz.prog 40 = some true := by kernel_rfl
theorem zr40 : zeroT Tryz.prog 40 = some (.agg [.int .u8 0, .int .u16 0, .sl true []]) := by kernel_rfl
theorem by40 : bytesT Tryz.prog 40 = some 32 := by kernel_rfl
theorem fd40_0 : fieldT Tryz.prog 40 0 = some (0, 5) := by kernel_rfl
theorem fd40_1 : fieldT Tryz.prog 40 1 = some (1, 38) := by kernel_rfl
theorem fd40_2 : fieldT Tryz.prog 40 2 = some (2, 22) := by kernel_rfl
theorem bd40 (ps : List (Nat × D)) : buildD Tryz.prog 40 ps = (fillD (fun i => ([(0, 1), (1, 1), (2, 1)] : List (Nat × Nat))[i]?) (D.cells (.agg [.int .u8 0, .int .u16 0, .sl true []])) ps).map .agg := by kernel_rfl
theorem sz41 : sizeT Tryz.prog 41 = some 5 := by kernel_rfl
theorem ag41 : isAggT Tryz.prog 41 = some true := by kernel_rfl
theorem by41 : bytesT Tryz.prog 41 = some 56 := by kernel_rfl
theorem fd41_0 : fieldT Tryz.prog 41 0 = some (0, 9) := by kernel_rfl
theorem fd41_1 : fieldT Tryz.prog 41 1 = some (1, 40) := by kernel_rfl
theorem fd41_2 : fieldT Tryz.prog 41 2 = some (4, 4) := by kernel_rfl
theorem sz42 : sizeT Tryz.prog 42 = some 5 := by kernel_rfl
theorem ag42 : isAggT Tryz.prog 42 = some true := by kernel_rfl
theorem by42 : bytesT Tryz.prog 42 = some 56 := by kernel_rfl
theorem fd42_0 : fieldT Tryz.prog 42 0 = some (0, 9) := by kernel_rfl
theorem fd42_1 : fieldT Tryz.prog 42 1 = some (1, 40) := by kernel_rfl
theorem fd42_2 : fieldT Tryz.prog 42 2 = some (4, 4) := by kernel_rfl
theorem sz44 : sizeT Tryz.prog 44 = some 1 := by kernel_rfl
theorem ag44 : isAggT Tryz.prog 44 = some false := by kernel_rfl
theorem zr44 : zeroT Tryz.prog 44 = some (.niln) := by kernel_rfl
theorem by44 : bytesT Tryz.prog 44 = some 8 := by kernel_rfl
theorem sz45 : sizeT Tryz.prog 45 = some 1 := by kernel_rfl
theorem ag45 : isAggT Tryz.prog 45 = some false := by kernel_rfl
theorem zr45 : zeroT Tryz.prog 45 = some (.niln) := by kernel_rfl
theorem by45 : bytesT Tryz.prog 45 = some 8 := by kernel_rfl
theorem sz46 : sizeT Tryz.prog 46 = some 1 := by kernel_rfl
theorem ag46 : isAggT Tryz.prog 46 = some false := by kernel_rfl
theorem zr46 : zeroT Tryz.prog 46 = some (.niln) := by kernel_rfl
theorem by46 : bytesT Tryz.prog 46 = some 8 := by kernel_rfl
theorem sz47 : sizeT Tryz.prog 47 = some 1 := by kernel_rfl
theorem ag47 : isAggT Tryz.prog 47 = some false := by kernel_rfl
theorem zr47 : zeroT Tryz.prog 47 = some (.niln) := by kernel_rfl
theorem by47 : bytesT Tryz.prog 47 = some 8 := by kernel_rfl
theorem sz48 : sizeT Tryz.prog 48 = some 1 := by kernel_rfl
theorem ag48 : isAggT Tryz.prog 48 = some false := by kernel_rfl
theorem zr48 : zeroT Tryz.prog 48 = some (.niln) := by kernel_rfl
theorem by48 : bytesT Tryz.prog 48 = some 8 := by kernel_rfl
theorem sz49 : sizeT Tryz.prog 49 = some 1 := by kernel_rfl
theorem ag49 : isAggT Tryz.prog 49 = some false := by kernel_rfl
theorem zr49 : zeroT Tryz.prog 49 = some (.niln) := by kernel_rfl
theorem by49 : bytesT Tryz.prog 49 = some 8 := by kernel_rfl
theorem un50 : Tryz.prog.underlying 50 = some (.slice 26) := by kernel_rfl
theorem sz50 : sizeT Tryz.prog 50 = some 1 := by kernel_rfl
theorem ag50 : isAggT Tryz.prog 50 = some false := by kernel_rfl
theorem zr50 : zeroT Tryz.prog 50 = some (.sl true []) := by kernel_rfl
theorem by50 : bytesT Tryz.prog 50 = some 24 := by kernel_rfl
theorem el50 : elemT Tryz.prog 50 = some 26 := by kernel_rfl
theorem un51 : Tryz.prog.underlying 51 = some (.slice 38) := by kernel_rfl
theorem sz51 : sizeT Tryz.prog 51 = some 1 := by kernel_rfl
theorem ag51 : isAggT Tryz.prog 51 = some false := by kernel_rfl
theorem zr51 : zeroT Tryz.prog 51 = some (.sl true []) := by kernel_rfl
theorem by51 : bytesT Tryz.prog 51 = some 24 := by kernel_rfl
theorem el51 : elemT Tryz.prog 51 = some 38 := by kernel_rfl
theorem sz52 : sizeT Tryz.prog 52 = some 4 := by kernel_rfl
theorem ag52 : isAggT Tryz.prog 52 = some true := by kernel_rfl
theorem by52 : bytesT Tryz.prog 52 = some 96 := by kernel_rfl
theorem fd52_0 : fieldT Tryz.prog 52 0 = some (0, 50) := by kernel_rfl
theorem fd52_1 : fieldT Tryz.prog 52 1 = some (1, 51) := by kernel_rfl
theorem fd52_2 : fieldT Tryz.prog 52 2 = some (2, 26) := by kernel_rfl
theorem fd52_3 : fieldT Tryz.prog 52 3 = some (3, 26) := by kernel_rfl
theorem sz53 : sizeT Tryz.prog 53 = some 4 := by kernel_rfl
theorem ag53 : isAggT Tryz.prog 53 = some true := by kernel_rfl
theorem by53 : bytesT Tryz.prog 53 = some 96 := by kernel_rfl
theorem fd53_0 : fieldT Tryz.prog 53 0 = some (0, 50) := by kernel_rfl
theorem fd53_1 : fieldT Tryz.prog 53 1 = some (1, 51) := by kernel_rfl
theorem fd53_2 : fieldT Tryz.prog 53 2 = some (2, 26) := by kernel_rfl
theorem fd53_3 : fieldT Tryz.prog 53 3 = some (3, 26) := by kernel_rfl
theorem sz55 : sizeT Tryz.prog 55 = some 1 := by kernel_rfl
theorem ag55 : isAggT Tryz.prog 55 = some false := by kernel_rfl
theorem zr55 : zeroT Tryz.prog 55 = some (.niln) := by kernel_rfl
theorem by55 : bytesT Tryz.prog 55 = some 8 := by kernel_rfl
theorem un56 : Tryz.prog.underlying 56 = some (.pointer 59) := by kernel_rfl
theorem sz56 : sizeT Tryz.prog 56 = some 1 := by kernel_rfl
theorem ag56 : isAggT Tryz.prog 56 = some false := by kernel_rfl
theorem zr56 : zeroT Tryz.prog 56 = some (.nilp) := by kernel_rfl
theorem by56 : bytesT Tryz.prog 56 = some 8 := by kernel_rfl
theorem un57 : Tryz.prog.underlying 57 = some (.map 9 3) := by kernel_rfl
theorem sz57 : sizeT Tryz.prog 57 = some 1 := by kernel_rfl
theorem ag57 : isAggT Tryz.prog 57 = some false := by kernel_rfl
theorem zr57 : zeroT Tryz.prog 57 = some (.nilm) := by kernel_rfl
theorem by57 : bytesT Tryz.prog 57 = some 8 := by kernel_rfl
theorem sz58 : sizeT Tryz.prog 58 = some 8 := by kernel_rfl
theorem ag58 : isAggT Tryz.prog 58 = some true := by kernel_rfl
theorem by58 : bytesT Tryz.prog 58 = some 176 := by kernel_rfl
theorem fd58_0 : fieldT Tryz.prog 58 0 = some (0, 53) := by kernel_rfl
theorem fd58_1 : fieldT Tryz.prog 58 1 = some (4, 28) := by kernel_rfl
theorem fd58_2 : fieldT Tryz.prog 58 2 = some (6, 57) := by kernel_rfl
theorem fd58_3 : fieldT Tryz.prog 58 3 = some (7, 50) := by kernel_rfl
theorem sz59 : sizeT Tryz.prog 59 = some 8 := by kernel_rfl
theorem ag59 : isAggT Tryz.prog 59 = some true := by kernel_rfl
theorem by59 : bytesT Tryz.prog 59 = some 176 := by kernel_rfl
theorem fd59_0 : fieldT Tryz.prog 59 0 = some (0, 53) := by kernel_rfl
theorem fd59_1 : fieldT Tryz.prog 59 1 = some (4, 28) := by kernel_rfl
theorem fd59_2 : fieldT Tryz.prog 59 2 = some (6, 57) := by kernel_rfl
theorem fd59_3 : fieldT Tryz.prog 59 3 = some (7, 50) := by kernel_rfl
theorem sz60 : sizeT Tryz.prog 60 = some 1 := by kernel_rfl
theorem ag60 : isAggT Tryz.prog 60 = some false := by kernel_rfl
theorem zr60 : zeroT Tryz.prog 60 = some (.niln) := by kernel_rfl
theorem by60 : bytesT Tryz.prog 60 = some 8 := by kernel_rfl
theorem sz61 : sizeT Tryz.prog 61 = some 1 := by kernel_rfl
theorem ag61 : isAggT Tryz.prog 61 = some false := by kernel_rfl
theorem zr61 : zeroT Tryz.prog 61 = some (.niln) := by kernel_rfl
theorem by61 : bytesT Tryz.prog 61 = some 8 := by kernel_rfl
theorem un62 : Tryz.prog.underlying 62 = some (.array 16 3) := by kernel_rfl
theorem sz62 : sizeT Tryz.prog 62 = some 16 := by kernel_rfl
theorem ag62 : isAggT Tryz.prog 62 = some true := by kernel_rfl
theorem zr62 : zeroT Tryz.prog 62 = some (.agg [.int .i64 0, .int .i64 0, .int .i64 0, .int .i64 0, .int .i64 0, .int .i64 0, .int .i64 0, .int .i64 0, .int .i64 0, .int .i64 0, .int .i64 0, .int .i64 0, .int .i64 0, .int .i64 0, .int .i64 0, .int .i64 0]) := by kernel_rfl
theorem by62 : bytesT Tryz.prog 62 = some 128 := by kernel_rfl
theorem bd62 (ps : List (Nat × D)) : buildD Tryz.prog 62 ps = (fillD (fun i => some (i * 1, 1)) (D.cells (.agg [.int .i64 0, .int .i64 0, .int .i64 0, .int .i64 0, .int .i64 0, .int .i64 0, .int .i64 0, .int .i64 0, .int .i64 0, .int .i64 0, .int .i64 0, .int .i64 0, .int .i64 0, .int .i64 0, .int .i64 0, .int .i64 0])) ps).map .agg := by kernel_rfl
theorem sz63 : sizeT Tryz.prog 63 = some 1 := by kernel_rfl
theorem ag63 : isAggT Tryz.prog 63 = some false := by kernel_rfl
theorem zr63 : zeroT Tryz.prog 63 = some (.niln) := by kernel_rfl
theorem by63 : bytesT Tryz.prog 63 = some 8 := by kernel_rfl
theorem sz65 : sizeT Tryz.prog 65 = some 1 := by kernel_rfl
theorem ag65 : isAggT Tryz.prog 65 = some false := by kernel_rfl
theorem zr65 : zeroT Tryz.prog 65 = some (.niln) := by kernel_rfl
theorem by65 : bytesT Tryz.prog 65 = some 8 := by kernel_rfl
theorem un66 : Tryz.prog.underlying 66 = some (.slice 4) := by kernel_rfl
theorem sz66 : sizeT Tryz.prog 66 = some 1 := by kernel_rfl
theorem ag66 : isAggT Tryz.prog 66 = some false := by kernel_rfl
theorem zr66 : zeroT Tryz.prog 66 = some (.sl true []) := by kernel_rfl
theorem by66 : bytesT Tryz.prog 66 = some 24 := by kernel_rfl
theorem el66 : elemT Tryz.prog 66 = some 4 := by kernel_rfl
theorem sz67 : sizeT Tryz.prog 67 = some 1 := by kernel_rfl
theorem ag67 : isAggT Tryz.prog 67 = some false := by kernel_rfl
theorem zr67 : zeroT Tryz.prog 67 = some (.niln) := by kernel_rfl
theorem by67 : bytesT Tryz.prog 67 = some 8 := by kernel_rfl
theorem sz68 : sizeT Tryz.prog 68 = some 1 := by kernel_rfl
theorem ag68 : isAggT Tryz.prog 68 = some false := by kernel_rfl
theorem zr68 : zeroT Tryz.prog 68 = some (.niln) := by kernel_rfl
theorem by68 : bytesT Tryz.prog 68 = some 8 := by kernel_rfl
theorem un69 : Tryz.prog.underlying 69 = some (.slice 66) := by kernel_rfl
theorem sz69 : sizeT Tryz.prog 69 = some 1 := by kernel_rfl
theorem ag69 : isAggT Tryz.prog 69 = some false := by kernel_rfl
theorem zr69 : zeroT Tryz.prog 69 = some (.sl true []) := by kernel_rfl
theorem by69 : bytesT Tryz.prog 69 = some 24 := by kernel_rfl
theorem el69 : elemT Tryz.prog 69 = some 66 := by kernel_rfl
theorem sz70 : sizeT Tryz.prog 70 = some 1 := by kernel_rfl
theorem ag70 : isAggT Tryz.prog 70 = some false := by kernel_rfl
theorem zr70 : zeroT Tryz.prog 70 = some (.niln) := by kernel_rfl
theorem by70 : bytesT Tryz.prog 70 = some 8 := by kernel_rfl
theorem sz71 : sizeT Tryz.prog 71 = some 1 := by kernel_rfl
theorem ag71 : isAggT Tryz.prog 71 = some false := by kernel_rfl
theorem zr71 : zeroT Tryz.prog 71 = some (.niln) := by kernel_rfl
theorem by71 : bytesT Tryz.prog 71 = some 8 := by kernel_rfl
theorem sz72 : sizeT Tryz.prog 72 = some 1 := by kernel_rfl
theorem ag72 : isAggT Tryz.prog 72 = some false := by kernel_rfl
theorem zr72 : zeroT Tryz.prog 72 = some (.niln) := by kernel_rfl
theorem by72 : bytesT Tryz.prog 72 = some 8 := by kernel_rfl
theorem sz73 : sizeT Tryz.prog 73 = some 1 := by kernel_rfl
theorem ag73 : isAggT Tryz.prog 73 = some false := by kernel_rfl
theorem zr73 : zeroT Tryz.prog 73 = some (.niln) := by kernel_rfl
theorem by73 : bytesT Tryz.prog 73 = some 8 := by kernel_rfl
theorem un74 : Tryz.prog.underlying 74 = some (.slice 9) := by kernel_rfl
theorem sz74 : sizeT Tryz.prog 74 = some 1 := by kernel_rfl
theorem ag74 : isAggT Tryz.prog 74 = some false := by kernel_rfl
theorem zr74 : zeroT Tryz.prog 74 = some (.sl true []) := by kernel_rfl
theorem by74 : bytesT Tryz.prog 74 = some 24 := by kernel_rfl
theorem el74 : elemT Tryz.prog 74 = some 9 := by kernel_rfl
theorem sz75 : sizeT Tryz.prog 75 = some 1 := by kernel_rfl
theorem ag75 : isAggT Tryz.prog 75 = some false := by kernel_rfl
theorem zr75 : zeroT Tryz.prog 75 = some (.niln) := by kernel_rfl
theorem by75 : bytesT Tryz.prog 75 = some 8 := by kernel_rfl
theorem sz77 : sizeT Tryz.prog 77 = some 1 := by kernel_rfl
theorem ag77 : isAggT Tryz.prog 77 = some false := by kernel_rfl
theorem zr77 : zeroT Tryz.prog 77 = some (.niln) := by kernel_rfl
theorem by77 : bytesT Tryz.prog 77 = some 8 := by kernel_rfl
theorem sz78 : sizeT Tryz.prog 78 = some 1 := by kernel_rfl
theorem ag78 : isAggT Tryz.prog 78 = some false := by kernel_rfl
theorem zr78 : zeroT Tryz.prog 78 = some (.niln) := by kernel_rfl
theorem by78 : bytesT Tryz.prog 78 = some 8 := by kernel_rfl
theorem sz79 : sizeT Tryz.prog 79 = some 1 := by kernel_rfl
theorem ag79 : isAggT Tryz.prog 79 = some false := by kernel_rfl
theorem zr79 : zeroT Tryz.prog 79 = some (.niln) := by kernel_rfl
theorem by79 : bytesT Tryz.prog 79 = some 8 := by kernel_rfl
theorem sz80 : sizeT Tryz.prog 80 = some 1 := by kernel_rfl
theorem ag80 : isAggT Tryz.prog 80 = some false := by kernel_rfl
theorem zr80 : zeroT Tryz.prog 80 = some (.niln) := by kernel_rfl
theorem by80 : bytesT Tryz.prog 80 = some 8 := by kernel_rfl
theorem un81 : Tryz.prog.underlying 81 = some (.pointer 83) := by kernel_rfl
theorem sz81 : sizeT Tryz.prog 81 = some 1 := by kernel_rfl
theorem ag81 : isAggT Tryz.prog 81 = some false := by kernel_rfl
theorem zr81 : zeroT Tryz.prog 81 = some (.nilp) := by kernel_rfl
theorem by81 : bytesT Tryz.prog 81 = some 8 := by kernel_rfl
theorem sz82 : sizeT Tryz.prog 82 = some 4 := by kernel_rfl
theorem ag82 : isAggT Tryz.prog 82 = some true := by kernel_rfl
theorem by82 : bytesT Tryz.prog 82 = some 96 := by kernel_rfl
theorem fd82_0 : fieldT Tryz.prog 82 0 = some (0, 53) := by kernel_rfl
theorem sz83 : sizeT Tryz.prog 83 = some 4 := by kernel_rfl
theorem ag83 : isAggT Tryz.prog 83 = some true := by kernel_rfl
theorem by83 : bytesT Tryz.prog 83 = some 96 := by kernel_rfl
theorem fd83_0 : fieldT Tryz.prog 83 0 = some (0, 53) := by kernel_rfl
theorem sz84 : sizeT Tryz.prog 84 = some 1 := by kernel_rfl
theorem ag84 : isAggT Tryz.prog 84 = some false := by kernel_rfl
theorem zr84 : zeroT Tryz.prog 84 = some (.niln) := by kernel_rfl
theorem by84 : bytesT Tryz.prog 84 = some 8 := by kernel_rfl
theorem sz85 : sizeT Tryz.prog 85 = some 1 := by kernel_rfl
theorem ag85 : isAggT Tryz.prog 85 = some false := by kernel_rfl
theorem zr85 : zeroT Tryz.prog 85 = some (.niln) := by kernel_rfl
theorem by85 : bytesT Tryz.prog 85 = some 8 := by kernel_rfl
theorem sz86 : sizeT Tryz.prog 86 = some 1 := by kernel_rfl
theorem ag86 : isAggT Tryz.prog 86 = some false := by kernel_rfl
theorem zr86 : zeroT Tryz.prog 86 = some (.niln) := by kernel_rfl
theorem by86 : bytesT Tryz.prog 86 = some 8 := by kernel_rfl
theorem un87 : Tryz.prog.underlying 87 = some (.slice 5) := by kernel_rfl
theorem sz87 : sizeT Tryz.prog 87 = some 1 := by kernel_rfl
theorem ag87 : isAggT Tryz.prog 87 = some false := by kernel_rfl
theorem zr87 : zeroT Tryz.prog 87 = some (.sl true []) := by kernel_rfl
theorem by87 : bytesT Tryz.prog 87 = some 24 := by kernel_rfl
theorem el87 : elemT Tryz.prog 87 = some 5 := by kernel_rfl
theorem un88 : Tryz.prog.underlying 88 = some (.int .u64) := by kernel_rfl
theorem sz88 : sizeT Tryz.prog 88 = some 1 := by kernel_rfl
theorem ag88 : isAggT Tryz.prog 88 = some false := by kernel_rfl
theorem zr88 : zeroT Tryz.prog 88 = some (.int .u64 0) := by kernel_rfl
theorem by88 : bytesT Tryz.prog 88 = some 8 := by kernel_rfl
theorem sz90 : sizeT Tryz.prog 90 = some 1 := by kernel_rfl
theorem ag90 : isAggT Tryz.prog 90 = some false := by kernel_rfl
theorem zr90 : zeroT Tryz.prog 90 = some (.niln) := by kernel_rfl
theorem by90 : bytesT Tryz.prog 90 = some 8 := by kernel_rfl
theorem sz91 : sizeT Tryz.prog 91 = some 1 := by kernel_rfl
theorem ag91 : isAggT Tryz.prog 91 = some false := by kernel_rfl
theorem zr91 : zeroT Tryz.prog 91 = some (.niln) := by kernel_rfl
theorem by91 : bytesT Tryz.prog 91 = some 8 := by kernel_rfl
theorem sz92 : sizeT Tryz.prog 92 = some 1 := by kernel_rfl
theorem ag92 : isAggT Tryz.prog 92 = some false := by kernel_rfl
theorem zr92 : zeroT Tryz.prog 92 = some (.niln) := by kernel_rfl
theorem by92 : bytesT Tryz.prog 92 = some 8 := by kernel_rfl
theorem sz93 : sizeT Tryz.prog 93 = some 1 := by kernel_rfl
theorem ag93 : isAggT Tryz.prog 93 = some false := by kernel_rfl
theorem zr93 : zeroT Tryz.prog 93 = some (.niln) := by kernel_rfl
theorem by93 : bytesT Tryz.prog 93 = some 8 := by kernel_rfl
theorem sz94 : sizeT Tryz.prog 94 = some 1 := by kernel_rfl
theorem ag94 : isAggT Tryz.prog 94 = some false := by kernel_rfl
theorem zr94 : zeroT Tryz.prog 94 = some (.niln) := by kernel_rfl
theorem by94 : bytesT Tryz.prog 94 = some 8 := by kernel_rfl
theorem sz95 : sizeT Tryz.prog 95 = some 1 := by kernel_rfl
theorem ag95 : isAggT Tryz.prog 95 = some false := by kernel_rfl
theorem zr95 : zeroT Tryz.prog 95 = some (.niln) := by kernel_rfl
theorem by95 : bytesT Tryz.prog 95 = some 8 := by kernel_rfl
theorem sz96 : sizeT Tryz.prog 96 = some 1 := by kernel_rfl
theorem ag96 : isAggT Tryz.prog 96 = some false := by kernel_rfl
theorem zr96 : zeroT Tryz.prog 96 = some (.niln) := by kernel_rfl
theorem by96 : bytesT Tryz.prog 96 = some 8 := by kernel_rfl
theorem sz98 : sizeT Tryz.prog 98 = some 1 := by kernel_rfl
theorem ag98 : isAggT Tryz.prog 98 = some false := by kernel_rfl
theorem zr98 : zeroT Tryz.prog 98 = some (.niln) := by kernel_rfl
theorem by98 : bytesT Tryz.prog 98 = some 8 := by kernel_rfl
theorem sz100 : sizeT Tryz.prog 100 = some 1 := by kernel_rfl
theorem ag100 : isAggT Tryz.prog 100 = some false := by kernel_rfl
theorem zr100 : zeroT Tryz.prog 100 = some (.niln) := by kernel_rfl
theorem by100 : bytesT Tryz.prog 100 = some 8 := by kernel_rfl
theorem sz102 : sizeT Tryz.prog 102 = some 1 := by kernel_rfl
theorem ag102 : isAggT Tryz.prog 102 = some false := by kernel_rfl
theorem zr102 : zeroT Tryz.prog 102 = some (.niln) := by kernel_rfl
theorem by102 : bytesT Tryz.prog 102 = some 8 := by kernel_rfl
theorem sz103 : sizeT Tryz.prog 103 = some 1 := by kernel_rfl
theorem ag103 : isAggT Tryz.prog 103 = some false := by kernel_rfl
theorem zr103 : zeroT Tryz.prog 103 = some (.niln) := by kernel_rfl
theorem by103 : bytesT Tryz.prog 103 = some 8 := by kernel_rfl
theorem sz104 : sizeT Tryz.prog 104 = some 1 := by kernel_rfl
theorem ag104 : isAggT Tryz.prog 104 = some false := by kernel_rfl
theorem zr104 : zeroT Tryz.prog 104 = some (.niln) := by kernel_rfl
theorem by104 : bytesT Tryz.prog 104 = some 8 := by kernel_rfl
theorem sz105 : sizeT Tryz.prog 105 = some 1 := by kernel_rfl
theorem ag105 : isAggT Tryz.prog 105 = some false := by kernel_rfl
theorem zr105 : zeroT Tryz.prog 105 = some (.niln) := by kernel_rfl
theorem by105 : bytesT Tryz.prog 105 = some 8 := by kernel_rfl
theorem un106 : Tryz.prog.underlying 106 = some (.pointer 3) := by kernel_rfl
theorem sz106 : sizeT Tryz.prog 106 = some 1 := by kernel_rfl
theorem ag106 : isAggT Tryz.prog 106 = some false := by kernel_rfl
theorem zr106 : zeroT Tryz.prog 106 = some (.nilp) := by kernel_rfl
theorem by106 : bytesT Tryz.prog 106 = some 8 := by kernel_rfl
theorem un107 : Tryz.prog.underlying 107 = some (.slice 109) := by kernel_rfl
theorem sz107 : sizeT Tryz.prog 107 = some 1 := by kernel_rfl
theorem ag107 : isAggT Tryz.prog 107 = some false := by kernel_rfl
theorem zr107 : zeroT Tryz.prog 107 = some (.sl true []) := by kernel_rfl
theorem by107 : bytesT Tryz.prog 107 = some 24 := by kernel_rfl
theorem el107 : elemT Tryz.prog 107 = some 109 := by kernel_rfl
theorem sz108 : sizeT Tryz.prog 108 = some 1 := by kernel_rfl
theorem ag108 : isAggT Tryz.prog 108 = some false := by kernel_rfl
theorem zr108 : zeroT Tryz.prog 108 = some (.niln) := by kernel_rfl
theorem by108 : bytesT Tryz.prog 108 = some 8 := by kernel_rfl
theorem un109 : Tryz.prog.underlying 109 = some (.array 2 3) := by kernel_rfl
theorem sz109 : sizeT Tryz.prog 109 = some 2 := by kernel_rfl
theorem ag109 : isAggT Tryz.prog 109 = some true := by kernel_rfl
theorem zr109 : zeroT Tryz.prog 109 = some (.agg [.int .i64 0, .int .i64 0]) := by kernel_rfl
theorem by109 : bytesT Tryz.prog 109 = some 16 := by kernel_rfl
theorem bd109 (ps : List (Nat × D)) : buildD Tryz.prog 109 ps = (fillD (fun i => some (i * 1, 1)) (D.cells (.agg [.int .i64 0, .int .i64 0])) ps).map .agg := by kernel_rfl
theorem sz110 : sizeT Tryz.prog 110 = some 1 := by kernel_rfl
theorem ag110 : isAggT Tryz.prog 110 = some false := by kernel_rfl
theorem zr110 : zeroT Tryz.prog 110 = some (.niln) := by kernel_rfl
theorem by110 : bytesT Tryz.prog 110 = some 8 := by kernel_rfl
theorem sz111 : sizeT Tryz.prog 111 = some 1 := by kernel_rfl
theorem ag111 : isAggT Tryz.prog 111 = some false := by kernel_rfl
theorem zr111 : zeroT Tryz.prog 111 = some (.niln) := by kernel_rfl
theorem by111 : bytesT Tryz.prog 111 = some 8 := by kernel_rfl
theorem sz112 : sizeT Tryz.prog 112 = some 1 := by kernel_rfl
theorem ag112 : isAggT Tryz.prog 112 = some false := by kernel_rfl
theorem zr112 : zeroT Tryz.prog 112 = some (.niln) := by kernel_rfl
theorem by112 : bytesT Tryz.prog 112 = some 8 := by kernel_rfl
theorem sz113 : sizeT Tryz.prog 113 = some 1 := by kernel_rfl
theorem ag113 : isAggT Tryz.prog 113 = some false := by kernel_rfl
theorem zr113 : zeroT Tryz.prog 113 = some (.niln) := by kernel_rfl
theorem by113 : bytesT Tryz.prog 113 = some 8 := by kernel_rfl
theorem sz114 : sizeT Tryz.prog 114 = some 1 := by kernel_rfl
theorem ag114 : isAggT Tryz.prog 114 = some false := by kernel_rfl
theorem zr114 : zeroT Tryz.prog 114 = some (.niln) := by kernel_rfl
theorem by114 : bytesT Tryz.prog 114 = some 8 := by kernel_rfl
theorem ag115 : isAggT Tryz.prog 115 = some true := by kernel_rfl
theorem zr115 : zeroT Tryz.prog 115 = some (.agg []) := by kernel_rfl
theorem by115 : bytesT Tryz.prog 115 = some 0 := by kernel_rfl
theorem ag116 : isAggT Tryz.prog 116 = some true := by kernel_rfl
theorem zr116 : zeroT Tryz.prog 116 = some (.agg []) := by kernel_rfl
theorem by116 : bytesT Tryz.prog 116 = some 0 := by kernel_rfl
theorem un118 : Tryz.prog.underlying 118 = some (.pointer 120) := by kernel_rfl
theorem sz118 : sizeT Tryz.prog 118 = some 1 := by kernel_rfl
theorem ag118 : isAggT Tryz.prog 118 = some false := by kernel_rfl
theorem zr118 : zeroT Tryz.prog 118 = some (.nilp) := by kernel_rfl
theorem by118 : bytesT Tryz.prog 118 = some 8 := by kernel_rfl
theorem sz119 : sizeT Tryz.prog 119 = some 2 := by kernel_rfl
theorem ag119 : isAggT Tryz.prog 119 = some true := by kernel_rfl
theorem zr119 : zeroT Tryz.prog 119 = some (.agg [.str [], .int .i64 0]) := by kernel_rfl
theorem by119 : bytesT Tryz.prog 119 = some 24 := by kernel_rfl
theorem fd119_0 : fieldT Tryz.prog 119 0 = some (0, 9) := by kernel_rfl
theorem fd119_1 : fieldT Tryz.prog 119 1 = some (1, 3) := by kernel_rfl
theorem bd119 (ps : List (Nat × D)) : buildD Tryz.prog 119 ps = (fillD (fun i => ([(0, 1), (1, 1)] : List (Nat × Nat))[i]?) (D.cells (.agg [.str [], .int .i64 0])) ps).map .agg := by kernel_rfl
theorem sz120 : sizeT Tryz.prog 120 = some 2 := by kernel_rfl
theorem ag120 : isAggT Tryz.prog 120 = some true := by kernel_rfl
theorem zr120 : zeroT Tryz.prog 120 = some (.agg [.str [], .int .i64 0]) := by kernel_rfl
theorem by120 : bytesT Tryz.prog 120 = some 24 := by kernel_rfl
theorem fd120_0 : fieldT Tryz.prog 120 0 = some (0, 9) := by kernel_rfl
theorem fd120_1 : fieldT Tryz.prog 120 1 = some (1, 3) := by kernel_rfl
theorem bd120 (ps : List (Nat × D)) : buildD Tryz.prog 120 ps = (fillD (fun i => ([(0, 1), (1, 1)] : List (Nat × Nat))[i]?) (D.cells (.agg [.str [], .int .i64 0])) ps).map .agg := by kernel_rfl
theorem sz121 : sizeT Tryz.prog 121 = some 1 := by kernel_rfl
theorem ag121 : isAggT Tryz.prog 121 = some false := by kernel_rfl
theorem zr121 : zeroT Tryz.prog 121 = some (.niln) := by kernel_rfl
theorem by121 : bytesT Tryz.prog 121 = some 8 := by kernel_rfl
theorem sz122 : sizeT Tryz.prog 122 = some 1 := by kernel_rfl
theorem ag122 : isAggT Tryz.prog 122 = some false := by kernel_rfl
theorem zr122 : zeroT Tryz.prog 122 = some (.niln) := by kernel_rfl
theorem by122 : bytesT Tryz.prog 122 = some 8 := by kernel_rfl
theorem sz123 : sizeT Tryz.prog 123 = some 1 := by kernel_rfl
theorem ag123 : isAggT Tryz.prog 123 = some false := by kernel_rfl
theorem zr123 : zeroT Tryz.prog 123 = some (.niln) := by kernel_rfl
theorem by123 : bytesT Tryz.prog 123 = some 8 := by kernel_rfl
theorem sz124 : sizeT Tryz.prog 124 = some 1 := by kernel_rfl
theorem ag124 : isAggT Tryz.prog 124 = some false := by kernel_rfl
theorem zr124 : zeroT Tryz.prog 124 = some (.niln) := by kernel_rfl
theorem by124 : bytesT Tryz.prog 124 = some 8 := by kernel_rfl
theorem sz126 : sizeT Tryz.prog 126 = some 1 := by kernel_rfl
theorem ag126 : isAggT Tryz.prog 126 = some false := by kernel_rfl
theorem zr126 : zeroT Tryz.prog 126 = some (.niln) := by kernel_rfl
theorem by126 : bytesT Tryz.prog 126 = some 8 := by kernel_rfl
theorem sz127 : sizeT Tryz.prog 127 = some 1 := by kernel_rfl
theorem ag127 : isAggT Tryz.prog 127 = some false := by kernel_rfl
theorem zr127 : zeroT Tryz.prog 127 = some (.niln) := by kernel_rfl
theorem by127 : bytesT Tryz.prog 127 = some 8 := by kernel_rfl
theorem sz128 : sizeT Tryz.prog 128 = some 1 := by kernel_rfl
theorem ag128 : isAggT Tryz.prog 128 = some false := by kernel_rfl
theorem zr128 : zeroT Tryz.prog 128 = some (.niln) := by kernel_rfl
theorem by128 : bytesT Tryz.prog 128 = some 8 := by kernel_rfl
theorem sz129 : sizeT Tryz.prog 129 = some 1 := by kernel_rfl
theorem ag129 : isAggT Tryz.prog 129 = some false := by kernel_rfl
theorem zr129 : zeroT Tryz.prog 129 = some (.niln) := by kernel_rfl
theorem by129 : bytesT Tryz.prog 129 = some 8 := by kernel_rfl
theorem sz130 : sizeT Tryz.prog 130 = some 1 := by kernel_rfl
theorem ag130 : isAggT Tryz.prog 130 = some false := by kernel_rfl
theorem zr130 : zeroT Tryz.prog 130 = some (.niln) := by kernel_rfl
theorem by130 : bytesT Tryz.prog 130 = some 8 := by kernel_rfl
theorem un131 : Tryz.prog.underlying 131 = some (.int .i64) := by kernel_rfl
theorem sz131 : sizeT Tryz.prog 131 = some 1 := by kernel_rfl
theorem ag131 : isAggT Tryz.prog 131 = some false := by kernel_rfl
theorem zr131 : zeroT Tryz.prog 131 = some (.int .i64 0) := by kernel_rfl
theorem by131 : bytesT Tryz.prog 131 = some 8 := by kernel_rfl
theorem sz133 : sizeT Tryz.prog 133 = some 1 := by kernel_rfl
theorem ag133 : isAggT Tryz.prog 133 = some false := by kernel_rfl
theorem zr133 : zeroT Tryz.prog 133 = some (.niln) := by kernel_rfl
theorem by133 : bytesT Tryz.prog 133 = some 8 := by kernel_rfl
theorem sz134 : sizeT Tryz.prog 134 = some 1 := by kernel_rfl
theorem ag134 : isAggT Tryz.prog 134 = some false := by kernel_rfl
theorem zr134 : zeroT Tryz.prog 134 = some (.niln) := by kernel_rfl
theorem by134 : bytesT Tryz.prog 134 = some 8 := by kernel_rfl
theorem sz135 : sizeT Tryz.prog 135 = some 1 := by kernel_rfl
theorem ag135 : isAggT Tryz.prog 135 = some false := by kernel_rfl
theorem zr135 : zeroT Tryz.prog 135 = some (.niln) := by kernel_rfl
theorem by135 : bytesT Tryz.prog 135 = some 8 := by kernel_rfl
theorem sz136 : sizeT Tryz.prog 136 = some 1 := by kernel_rfl
theorem ag136 : isAggT Tryz.prog 136 = some false := by kernel_rfl
theorem zr136 : zeroT Tryz.prog 136 = some (.niln) := by kernel_rfl
theorem by136 : bytesT Tryz.prog 136 = some 8 := by kernel_rfl
theorem sz137 : sizeT Tryz.prog 137 = some 1 := by kernel_rfl
theorem ag137 : isAggT Tryz.prog 137 = some false := by kernel_rfl
theorem zr137 : zeroT Tryz.prog 137 = some (.niln) := by kernel_rfl
theorem by137 : bytesT Tryz.prog 137 = some 8 := by kernel_rfl
theorem sz138 : sizeT Tryz.prog 138 = some 1 := by kernel_rfl
theorem ag138 : isAggT Tryz.prog 138 = some false := by kernel_rfl
theorem zr138 : zeroT Tryz.prog 138 = some (.niln) := by kernel_rfl
theorem by138 : bytesT Tryz.prog 138 = some 8 := by kernel_rfl
theorem un139 : Tryz.prog.underlying 139 = some (.int .u32) := by kernel_rfl
theorem sz139 : sizeT Tryz.prog 139 = some 1 := by kernel_rfl
theorem ag139 : isAggT Tryz.prog 139 = some false := by kernel_rfl
theorem zr139 : zeroT Tryz.prog 139 = some (.int .u32 0) := by kernel_rfl
theorem by139 : bytesT Tryz.prog 139 = some 4 := by kernel_rfl
theorem sz140 : sizeT Tryz.prog 140 = some 1 := by kernel_rfl
theorem ag140 : isAggT Tryz.prog 140 = some false := by kernel_rfl
theorem zr140 : zeroT Tryz.prog 140 = some (.niln) := by kernel_rfl
theorem by140 : bytesT Tryz.prog 140 = some 8 := by kernel_rfl
theorem un141 : Tryz.prog.underlying 141 = some (.int .u64) := by kernel_rfl
theorem sz141 : sizeT Tryz.prog 141 = some 1 := by kernel_rfl
theorem ag141 : isAggT Tryz.prog 141 = some false := by kernel_rfl
theorem zr141 : zeroT Tryz.prog 141 = some (.int .u64 0) := by kernel_rfl
theorem by141 : bytesT Tryz.prog 141 = some 8 := by kernel_rfl
theorem sz143 : sizeT Tryz.prog 143 = some 1 := by kernel_rfl
theorem ag143 : isAggT Tryz.prog 143 = some false := by kernel_rfl
theorem zr143 : zeroT Tryz.prog 143 = some (.niln) := by kernel_rfl
theorem by143 : bytesT Tryz.prog 143 = some 8 := by kernel_rfl
theorem sz144 : sizeT Tryz.prog 144 = some 1 := by kernel_rfl
theorem ag144 : isAggT Tryz.prog 144 = some false := by kernel_rfl
theorem zr144 : zeroT Tryz.prog 144 = some (.niln) := by kernel_rfl
theorem by144 : bytesT Tryz.prog 144 = some 8 := by kernel_rfl
theorem un145 : Tryz.prog.underlying 145 = some (.int .u64) := by kernel_rfl
theorem sz145 : sizeT Tryz.prog 145 = some 1 := by kernel_rfl
theorem ag145 : isAggT Tryz.prog 145 = some false := by kernel_rfl
theorem zr145 : zeroT Tryz.prog 145 = some (.int .u64 0) := by kernel_rfl
theorem by145 : bytesT Tryz.prog 145 = some 8 := by kernel_rfl
theorem sz146 : sizeT Tryz.prog 146 = some 1 := by kernel_rfl
theorem ag146 : isAggT Tryz.prog 146 = some false := by kernel_rfl
theorem zr146 : zeroT Tryz.prog 146 = some (.niln) := by kernel_rfl
theorem by146 : bytesT Tryz.prog 146 = some 8 := by kernel_rfl
theorem sz147 : sizeT Tryz.prog 147 = some 1 := by kernel_rfl
theorem ag147 : isAggT Tryz.prog 147 = some false := by kernel_rfl
theorem zr147 : zeroT Tryz.prog 147 = some (.niln) := by kernel_rfl
theorem by147 : bytesT Tryz.prog 147 = some 8 := by kernel_rfl
theorem sz148 : sizeT Tryz.prog 148 = some 1 := by kernel_rfl
theorem ag148 : isAggT Tryz.prog 148 = some false := by kernel_rfl
theorem zr148 : zeroT Tryz.prog 148 = some (.niln) := by kernel_rfl
theorem by148 : bytesT Tryz.prog 148 = some 8 := by kernel_rfl
theorem sz149 : sizeT Tryz.prog 149 = some 1 := by kernel_rfl
theorem ag149 : isAggT Tryz.prog 149 = some false := by kernel_rfl
theorem zr149 : zeroT Tryz.prog 149 = some (.niln) := by kernel_rfl
theorem by149 : bytesT Tryz.prog 149 = some 8 := by kernel_rfl
theorem un150 : Tryz.prog.underlying 150 = some (.array 256 5) := by kernel_rfl
theorem sz150 : sizeT Tryz.prog 150 = some 256 := by kernel_rfl
theorem ag150 : isAggT Tryz.prog 150 = some true := by kernel_rfl
theorem zr150 : zeroT Tryz.prog 150 = some (.agg [.int .u8 0, .int .u8 0, .int .u8 0, .int .u8 0, .int .u8 0, .int .u8 0, .int .u8 0, .int .u8 0, .int .u8 0, .int .u8 0, .int .u8 0, .int .u8 0, .int .u8 0, .int .u8 0, .int .u8 0, .int .u8 0, .int .u8 0, .int .u8 0, .int .u8 0, .int .u8 0, .int .u8 0, .int .u8 0, .int .u8 0, .int .u8 0, .int .u8 0, .int .u8 0, .int .u8 0, .int .u8 0, .int .u8 0, .int .u8 0, .int .u8 0, .int .u8 0, .int .u8 0, .int .u8 0, .int .u8 0, .int .u8 0, .int .u8 0, .int .u8 0, .int .u8 0, .int .u8 0, .int .u8 0, .int .u8 0, .int .u8 0, .int .u8 0, .int .u8 0, .int .u8 0, .int .u8 0, .int .u8 0, .int .u8 0, .int .u8 0, .int .u8 0, .int .u8 0, .int .u8 0, .int .u8 0, .int .u8 0, .int .u8 0, .int .u8 0, .int .u8 0, .int .u8 0, .int .u8 0, .int .u8 0, .int .u8 0, .int .u8 0, .int .u8 0, .int .u8 0, .int .u8 0, .int .u8 0, .int .u8 0, .int .u8 0, .int .u8 0, .int .u8 0, .int .u8 0, .int .u8 0, .int .u8 0, .int .u8 0, .int .u8 0, .int .u8 0, .int .u8 0, .int .u8 0, .int .u8 0, .int .u8 0, .int .u8 0, .int .u8 0, .int .u8 0, .int .u8 0, .int .u8 0, .int .u8 0, .int .u8 0, .int .u8 0, .int .u8 0, .int .u8 0, .int .u8 0, .int .u8 0, .int .u8 0, .int .u8 0, .int .u8 0, .int .u8 0, .int .u8 0, .int .u8 0, .int .u8 0, .int .u8 0, .int .u8 0, .int .u8 0, .int .u8 0, .int .u8 0, .int .u8 0, .int .u8 0, .int .u8 0, .int .u8 0, .int .u8 0, .int .u8 0, .int .u8 0, .int .u8 0, .int .u8 0, .int .u8 0, .int .u8 0, .int .u8 0, .int .u8 0, .int .u8 0, .int .u8 0, .int .u8 0, .int .u8 0, .int .u8 0, .int .u8 0, .int .u8 0, .int .u8 0, .int .u8 0, .int .u8 0, .int .u8 0, .int .u8 0, .int .u8 0, .int .u8 0, .int .u8 0, .int .u8 0, .int .u8 0, .int .u8 0, .int .u8 0, .int .u8 0, .int .u8 0, .int .u8 0, .int .u8 0, .int .u8 0, .int .u8 0, .int .u8 0, .int .u8 0, .int .u8 0, .int .u8 0, .int .u8 0, .int .u8 0, .int .u8 0, .int .u8 0, .int .u8 0, .int .u8 0, .int .u8 0, .int .u8 0, .int .u8 0, .int .u8 0, .int .u8 0, .int .u8 0, .int .u8 0, .int .u8 0, .int .u8 0, .int .u8 0, .int .u8 0, .int .u8 0, .int .u8 0, .int .u8 0, .int .u8 0, .int .u8 0, .int .u8 0, .int .u8 0, .int .u8 0, .int .u8 0, .int .u8 0, .int .u8 0, .int .u8 0, .int .u8 0, .int .u8 0, .int .u8 0, .int .u8 0, .int .u8 0, .int .u8 0, .int .u8 0, .int .u8 0, .int .u8 0, .int .u8 0, .int .u8 0, .int .u8 0, .int .u8 0, .int .u8 0, .int .u8 0, .int .u8 0, .int .u8 0, .int .u8 0, .int .u8 0, .int .u8 0, .int .u8 0, .int .u8 0, .int .u8 0, .int .u8 0, .int .u8 0, .int .u8 0, .int .u8 0, .int .u8 0, .int .u8 0, .int .u8 0, .int .u8 0, .int .u8 0, .int .u8 0, .int .u8 0, .int .u8 0, .int .u8 0, .int .u8 0, .int .u8 0, .int .u8 0, .int .u8 0, .int .u8 0, .int .u8 0, .int .u8 0, .int .u8 0, .int .u8 0, .int .u8 0, .int .u8 0, .int .u8 0, .int .u8 0, .int .u8 0, .int .u8 0, .int .u8 0, .int .u8 0, .int .u8 0, .int .u8 0, .int .u8 0, .int .u8 0, .int .u8 0, .int .u8 0, .int .u8 0, .int .u8 0, .int .u8 0, .int .u8 0, .int .u8 0, .int .u8 0, .int .u8 0, .int .u8 0, .int .u8 0, .int .u8 0, .int .u8 0, .int .u8 0, .int .u8 0, .int .u8 0, .int .u8 0, .int .u8 0, .int .u8 0, .int .u8 0, .int .u8 0, .int .u8 0, .int .u8 0]) := by kernel_rfl
theorem by150 : bytesT Tryz.prog 150 = some 256 := by kernel_rfl
theorem sz151 : sizeT Tryz.prog 151 = some 2 := by kernel_rfl
theorem ag151 : isAggT Tryz.prog 151 = some true := by kernel_rfl
theorem zr151 : zeroT Tryz.prog 151 = some (.agg [.int .u8 0, .int .u8 0]) := by kernel_rfl
theorem by151 : bytesT Tryz.prog 151 = some 2 := by kernel_rfl
theorem fd151_0 : fieldT Tryz.prog 151 0 = some (0, 5) := by kernel_rfl
theorem fd151_1 : fieldT Tryz.prog 151 1 = some (1, 5) := by kernel_rfl
theorem bd151 (ps : List (Nat × D)) : buildD Tryz.prog 151 ps = (fillD (fun i => ([(0, 1), (1, 1)] : List (Nat × Nat))[i]?) (D.cells (.agg [.int .u8 0, .int .u8 0])) ps).map .agg := by kernel_rfl
theorem sz152 : sizeT Tryz.prog 152 = some 2 := by kernel_rfl
theorem ag152 : isAggT Tryz.prog 152 = some true := by kernel_rfl
theorem zr152 : zeroT Tryz.prog 152 = some (.agg [.int .u8 0, .int .u8 0]) := by kernel_rfl
theorem by152 : bytesT Tryz.prog 152 = some 2 := by kernel_rfl
theorem fd152_0 : fieldT Tryz.prog 152 0 = some (0, 5) := by kernel_rfl
theorem fd152_1 : fieldT Tryz.prog 152 1 = some (1, 5) := by kernel_rfl
theorem bd152 (ps : List (Nat × D)) : buildD Tryz.prog 152 ps = (fillD (fun i => ([(0, 1), (1, 1)] : List (Nat × Nat))[i]?) (D.cells (.agg [.int .u8 0, .int .u8 0])) ps).map .agg := by kernel_rfl
theorem un153 : Tryz.prog.underlying 153 = some (.array 16 152) := by kernel_rfl
theorem sz153 : sizeT Tryz.prog 153 = some 32 := by kernel_rfl
theorem ag153 : isAggT Tryz.prog 153 = some true := by kernel_rfl
theorem zr153 : zeroT Tryz.prog 153 = some (.agg [.int .u8 0, .int .u8 0, .int .u8 0, .int .u8 0, .int .u8 0, .int .u8 0, .int .u8 0, .int .u8 0, .int .u8 0, .int .u8 0, .int .u8 0, .int .u8 0, .int .u8 0, .int .u8 0, .int .u8 0, .int .u8 0, .int .u8 0, .int .u8 0, .int .u8 0, .int .u8 0, .int .u8 0, .int .u8 0, .int .u8 0, .int .u8 0, .int .u8 0, .int .u8 0, .int .u8 0, .int .u8 0, .int .u8 0, .int .u8 0, .int .u8 0, .int .u8 0]) := by kernel_rfl
theorem by153 : bytesT Tryz.prog 153 = some 32 := by kernel_rfl
theorem bd153 (ps : List (Nat × D)) : buildD Tryz.prog 153 ps = (fillD (fun i => some (i * 2, 2)) (D.cells (.agg [.int .u8 0, .int .u8 0, .int .u8 0, .int .u8 0, .int .u8 0, .int .u8 0, .int .u8 0, .int .u8 0, .int .u8 0, .int .u8 0, .int .u8 0, .int .u8 0, .int .u8 0, .int .u8 0, .int .u8 0, .int .u8 0, .int .u8 0, .int .u8 0, .int .u8 0, .int .u8 0, .int .u8 0, .int .u8 0, .int .u8 0, .int .u8 0, .int .u8 0, .int .u8 0, .int .u8 0, .int .u8 0, .int .u8 0, .int .u8 0, .int .u8 0, .int .u8 0])) ps).map .agg := by kernel_rfl
theorem sz154 : sizeT Tryz.prog 154 = some 1 := by kernel_rfl
theorem ag154 : isAggT Tryz.prog 154 = some false := by kernel_rfl
theorem zr154 : zeroT Tryz.prog 154 = some (.niln) := by kernel_rfl
theorem by154 : bytesT Tryz.prog 154 = some 8 := by kernel_rfl
theorem un155 : Tryz.prog.underlying 155 = some (.pointer 145) := by kernel_rfl
theorem sz155 : sizeT Tryz.prog 155 = some 1 := by kernel_rfl
theorem ag155 : isAggT Tryz.prog 155 = some false := by kernel_rfl
theorem zr155 : zeroT Tryz.prog 155 = some (.nilp) := by kernel_rfl
theorem by155 : bytesT Tryz.prog 155 = some 8 := by kernel_rfl
theorem sz156 : sizeT Tryz.prog 156 = some 1 := by kernel_rfl
theorem ag156 : isAggT Tryz.prog 156 = some false := by kernel_rfl
theorem zr156 : zeroT Tryz.prog 156 = some (.niln) := by kernel_rfl
theorem by156 : bytesT Tryz.prog 156 = some 8 := by kernel_rfl
theorem sz157 : sizeT Tryz.prog 157 = some 1 := by kernel_rfl
theorem ag157 : isAggT Tryz.prog 157 = some false := by kernel_rfl
theorem zr157 : zeroT Tryz.prog 157 = some (.niln) := by kernel_rfl
theorem by157 : bytesT Tryz.prog 157 = some 8 := by kernel_rfl
theorem sz158 : sizeT Tryz.prog 158 = some 1 := by kernel_rfl
theorem ag158 : isAggT Tryz.prog 158 = some false := by kernel_rfl
theorem zr158 : zeroT Tryz.prog 158 = some (.niln) := by kernel_rfl
theorem by158 : bytesT Tryz.prog 158 = some 8 := by kernel_rfl
theorem sz159 : sizeT Tryz.prog 159 = some 1 := by kernel_rfl
theorem ag159 : isAggT Tryz.prog 159 = some false := by kernel_rfl
theorem zr159 : zeroT Tryz.prog 159 = some (.niln) := by kernel_rfl
theorem by159 : bytesT Tryz.prog 159 = some 8 := by kernel_rfl
theorem un162 : Tryz.prog.underlying 162 = some (.array 0 16) := by kernel_rfl
theorem ag162 : isAggT Tryz.prog 162 = some true := by kernel_rfl
theorem zr162 : zeroT Tryz.prog 162 = some (.agg []) := by kernel_rfl
theorem by162 : bytesT Tryz.prog 162 = some 0 := by kernel_rfl
theorem bd162 (ps : List (Nat × D)) : buildD Tryz.prog 162 ps = (fillD (fun i => some (i * 1, 1)) (D.cells (.agg [])) ps).map .agg := by kernel_rfl
theorem sz167 : sizeT Tryz.prog 167 = some 1 := by kernel_rfl
theorem ag167 : isAggT Tryz.prog 167 = some false := by kernel_rfl
theorem zr167 : zeroT Tryz.prog 167 = some (.niln) := by kernel_rfl
theorem by167 : bytesT Tryz.prog 167 = some 8 := by kernel_rfl
theorem un168 : Tryz.prog.underlying 168 = some (.pointer 5) := by kernel_rfl
theorem sz168 : sizeT Tryz.prog 168 = some 1 := by kernel_rfl
theorem ag168 : isAggT Tryz.prog 168 = some false := by kernel_rfl
theorem zr168 : zeroT Tryz.prog 168 = some (.nilp) := by kernel_rfl
theorem by168 : bytesT Tryz.prog 168 = some 8 := by kernel_rfl
theorem bo3 : bodied Tryz.prog 3 = true := by kernel_rfl
theorem bo4 : bodied Tryz.prog 4 = true := by kernel_rfl
theorem bo5 : bodied Tryz.prog 5 = true := by kernel_rfl
theorem bo6 : bodied Tryz.prog 6 = true := by kernel_rfl
theorem bo7 : bodied Tryz.prog 7 = true := by kernel_rfl
theorem bo8 : bodied Tryz.prog 8 = true := by kernel_rfl
theorem bo14 : bodied Tryz.prog 14 = true := by kernel_rfl
theorem bo15 : bodied Tryz.prog 15 = true := by kernel_rfl
theorem bo16 : bodied Tryz.prog 16 = true := by kernel_rfl
theorem bo17 : bodied Tryz.prog 17 = true := by kernel_rfl
theorem bo18 : bodied Tryz.prog 18 = true := by kernel_rfl
theorem bo19 : bodied Tryz.prog 19 = true := by kernel_rfl
theorem bo20 : bodied Tryz.prog 20 = true := by kernel_rfl
theorem bo21 : bodied Tryz.prog 21 = true := by kernel_rfl
theorem bo22 : bodied Tryz.prog 22 = true := by kernel_rfl
theorem bo23 : bodied Tryz.prog 23 = true := by kernel_rfl
theorem bo24 : bodied Tryz.prog 24 = true := by kernel_rfl
theorem bo25 : bodied Tryz.prog 25 = true := by kernel_rfl
theorem bo26 : bodied Tryz.prog 26 = true := by kernel_rfl
theorem bo32 : bodied Tryz.prog 32 = true := by kernel_rfl
theorem bo33 : bodied Tryz.prog 33 = true := by kernel_rfl
theorem bo34 : bodied Tryz.prog 34 = true := by kernel_rfl
theorem bo35 : bodied Tryz.prog 35 = true := by kernel_rfl
theorem bo36 : bodied Tryz.prog 36 = true := by kernel_rfl
theorem bo37 : bodied Tryz.prog 37 = true := by kernel_rfl
theorem bo38 : bodied Tryz.prog 38 = true := by kernel_rfl
theorem bo39 : bodied Tryz.prog 39 = true := by kernel_rfl
theorem bo40 : bodied Tryz.prog 40 = true := by kernel_rfl
theorem bo41 : bodied Tryz.prog 41 = true := by kernel_rfl
theorem bo42 : bodied Tryz.prog 42 = true := by kernel_rfl
theorem bo43 : bodied Tryz.prog 43 = true := by kernel_rfl
theorem bo54 : bodied Tryz.prog 54 = true := by kernel_rfl
theorem bo55 : bodied Tryz.prog 55 = true := by kernel_rfl
theorem bo56 : bodied Tryz.prog 56 = true := by kernel_rfl
theorem bo57 : bodied Tryz.prog 57 = true := by kernel_rfl
theorem bo58 : bodied Tryz.prog 58 = true := by kernel_rfl
theorem bo59 : bodied Tryz.prog 59 = true := by kernel_rfl
theorem bo67 : bodied Tryz.prog 67 = true := by kernel_rfl
attribute [go_sem] sz1 ag1 zr1 by1 un2 sz2 ag2 zr2 by2 un3 sz3 ag3 zr3 by3 un4 sz4 ag4 zr4 by4 un5 sz5 ag5 zr5 by5 un9 sz9 ag9 zr9 by9 sz20 ag20 zr20 by20 un21 sz21 ag21 zr21 by21 un22 sz22
attribute [go_sem] ag22 zr22 by22 el22 sz23 ag23 zr23 by23 sz24 ag24 zr24 by24 un25 sz25 ag25 zr25 by25 el25 un26 sz26 ag26 zr26 by26 el26 sz27 ag27 by27 fd27_0 fd27_1 sz28 ag28 by28 fd28_0 fd28_1 un29 sz29 ag29 zr29 by29 sz31
attribute [go_sem] ag31 zr31 by31 sz33 ag33 zr33 by33 sz34 ag34 zr34 by34 un35 sz35 ag35 zr35 by35 el35 sz37 ag37 zr37 by37 un38 sz38 ag38 zr38 by38 sz39 ag39 zr39 by39 fd39_0 fd39_1 fd39_2 bd39 sz40 ag40 zr40 by40 fd40_0 fd40_1
attribute [go_sem] fd40_2 bd40 sz41 ag41 by41 fd41_0 fd41_1 fd41_2 sz42 ag42 by42 fd42_0 fd42_1 fd42_2 sz44 ag44 zr44 by44 sz45 ag45 zr45 by45 sz46 ag46 zr46 by46 sz47 ag47 zr47 by47 sz48 ag48 zr48 by48 sz49 ag49 zr49 by49 un50 sz50
attribute [go_sem] ag50 zr50 by50 el50 un51 sz51 ag51 zr51 by51 el51 sz52 ag52 by52 fd52_0 fd52_1 fd52_2 fd52_3 sz53 ag53 by53 fd53_0 fd53_1 fd53_2 fd53_3 sz55 ag55 zr55 by55 un56 sz56 ag56 zr56 by56 un57 sz57 ag57 zr57 by57 sz58 ag58
attribute [go_sem] by58 fd58_0 fd58_1 fd58_2 fd58_3 sz59 ag59 by59 fd59_0 fd59_1 fd59_2 fd59_3 sz60 ag60 zr60 by60 sz61 ag61 zr61 by61 un62 sz62 ag62 zr62 by62 bd62 sz63 ag63 zr63 by63 sz65 ag65 zr65 by65 un66 sz66 ag66 zr66 by66 el66
attribute [go_sem] sz67 ag67 zr67 by67 sz68 ag68 zr68 by68 un69 sz69 ag69 zr69 by69 el69 sz70 ag70 zr70 by70 sz71 ag71 zr71 by71 sz72 ag72 zr72 by72 sz73 ag73 zr73 by73 un74 sz74 ag74 zr74 by74 el74 sz75 ag75 zr75 by75
attribute [go_sem] sz77 ag77 zr77 by77 sz78 ag78 zr78 by78 sz79 ag79 zr79 by79 sz80 ag80 zr80 by80 un81 sz81 ag81 zr81 by81 sz82 ag82 by82 fd82_0 sz83 ag83 by83 fd83_0 sz84 ag84 zr84 by84 sz85 ag85 zr85 by85 sz86 ag86 zr86
attribute [go_sem] by86 un87 sz87 ag87 zr87 by87 el87 un88 sz88 ag88 zr88 by88 sz90 ag90 zr90 by90 sz91 ag91 zr91 by91 sz92 ag92 zr92 by92 sz93 ag93 zr93 by93 sz94 ag94 zr94 by94 sz95 ag95 zr95 by95 sz96 ag96 zr96 by96
attribute [go_sem] sz98 ag98 zr98 by98 sz100 ag100 zr100 by100 sz102 ag102 zr102 by102 sz103 ag103 zr103 by103 sz104 ag104 zr104 by104 sz105 ag105 zr105 by105 un106 sz106 ag106 zr106 by106 un107 sz107 ag107 zr107 by107 el107 sz108 ag108 zr108 by108 un109
attribute [go_sem] sz109 ag109 zr109 by109 bd109 sz110 ag110 zr110 by110 sz111 ag111 zr111 by111 sz112 ag112 zr112 by112 sz113 ag113 zr113 by113 sz114 ag114 zr114 by114 ag115 zr115 by115 ag116 zr116 by116 un118 sz118 ag118 zr118 by118 sz119 ag119 zr119 by119
attribute [go_sem] fd119_0 fd119_1 bd119 sz120 ag120 zr120 by120 fd120_0 fd120_1 bd120 sz121 ag121 zr121 by121 sz122 ag122 zr122 by122 sz123 ag123 zr123 by123 sz124 ag124 zr124 by124 sz126 ag126 zr126 by126 sz127 ag127 zr127 by127 sz128 ag128 zr128 by128 sz129 ag129
attribute [go_sem] zr129 by129 sz130 ag130 zr130 by130 un131 sz131 ag131 zr131 by131 sz133 ag133 zr133 by133 sz134 ag134 zr134 by134 sz135 ag135 zr135 by135 sz136 ag136 zr136 by136 sz137 ag137 zr137 by137 sz138 ag138 zr138 by138 un139 sz139 ag139 zr139 by139
attribute [go_sem] sz140 ag140 zr140 by140 un141 sz141 ag141 zr141 by141 sz143 ag143 zr143 by143 sz144 ag144 zr144 by144 un145 sz145 ag145 zr145 by145 sz146 ag146 zr146 by146 sz147 ag147 zr147 by147 sz148 ag148 zr148 by148 sz149 ag149 zr149 by149 un150 sz150
attribute [go_sem] ag150 zr150 by150 sz151 ag151 zr151 by151 fd151_0 fd151_1 bd151 sz152 ag152 zr152 by152 fd152_0 fd152_1 bd152 un153 sz153 ag153 zr153 by153 bd153 sz154 ag154 zr154 by154 un155 sz155 ag155 zr155 by155 sz156 ag156 zr156 by156 sz157 ag157 zr157 by157
attribute [go_sem] sz158 ag158 zr158 by158 sz159 ag159 zr159 by159 un162 ag162 zr162 by162 bd162 sz167 ag167 zr167 by167 un168 sz168 ag168 zr168 by168
end Go.Proofs.Zs7z
end
/- Functions of Go's library on texts, taken as they are: by the shelf's contracts. -/
section
set_option linter.unusedVariables false
set_option linter.unusedSimpArgs false
namespace Vm
open Go Go.RowKit
variable [Base]

/-- one function that is taken as it is -/
def PrimAt (P : Program) (f : FuncId) (p : List D → Heap → Option R) : Prop :=
  ∀ (args : List D) (H : Heap) (r : R), p args H = some r → ∀ (ρ : Rho) (im : Im) (w : World) (vs : List Value), Rel ρ im H w → RepA ρ H.length im vs args → Calls P f ⟨vs⟩ w (OutR ρ im H w r)

/-- a text that is not too long for the shelf -/
def shortS (s : List UInt8) : Bool := s.length < 4294967281
def pSplit : List D → Heap → Option R
  | [.str s, .str sep], H => if shortS s = true ∧ 1 ≤ sep.length then some (.ok (.vec H.length 0 (Lib.split s sep).length) (H ++ [.arr ((Lib.split s sep).map .str)])) else none
  | _, _ => none
def pCount : List D → Heap → Option R
  | [.str s, .str sep], H => if shortS s = true ∧ 1 ≤ sep.length then some (.ok (.int .i64 (Lib.count s sep)) H) else none
  | _, _ => none
def pCut : List D → Heap → Option R
  | [.str s, .str sep], H => if shortS s = true then some (.ok (.tup [.str (Lib.cut s sep).1, .str (Lib.cut s sep).2.1, .bool (Lib.cut s sep).2.2]) H) else none
  | _, _ => none
def pCutSuffix : List D → Heap → Option R
  | [.str s, .str p], H => if shortS s = true then some (.ok (.tup [.str (Lib.trimSuffix s p), .bool (Lib.hasSuffix s p)]) H) else none
  | _, _ => none
def pIndexByte : List D → Heap → Option R
  | [.str s, .int .u8 c], H => some (.ok (.int .i64 (Lib.indexByte s c.toNat.toUInt8)) H)
  | _, _ => none

section
variable {P : Program} {ρ : Rho} {im : Im} {H : Heap} {w w' : World} {f : FuncId} {g : Nat}
omit [Base] in
theorem str_inv {v : Value} {s : List UInt8} {n : Nat} (h : Rep ρ n im v (.str s)) : ∃ b : ByteArray, v = .string b ∧ b.data.toList = s := by
  cases h with
  | str b => exact ⟨b, rfl, rfl⟩
omit [Base] in
theorem int_inv {v : Value} {k : IntKind} {m : Int} {n : Nat} (h : Rep ρ n im v (.int k m)) : v = .int k m := by
  cases h; rfl
omit [Base] in
theorem str_mk (l : List UInt8) {n : Nat} : Rep ρ n im (.string ⟨l.toArray⟩) (.str l) := by
  have := Rep.str (ρ := ρ) (n := n) (im := im) ⟨l.toArray⟩
  simpa using this
theorem OutR.same (hR : Rel ρ im H w) {v : Value} {d : D} (hv : Rep ρ H.length im v d) : OutR ρ im H w (.ok d H) (.returned v) w := .ok ρ im H w v d (Mv.refl hR) hv
theorem OutR.drewN (hR : Rel ρ im H w) {v : Value} {d : D} {n : Nat} (hv : Rep ρ H.length im v d) : OutR ρ im H w (.ok d H) (.returned v) (w.drewN n) :=
  .ok ρ im H _ v d ⟨hR.world fun _ _ => rfl, ImLe.refl _, Tr.world (fun _ _ => rfl) (Nat.le_refl _) rfl rfl rfl, fun _ _ _ h => .inl h⟩ hv
omit [Base] in
theorem size_list (s : ByteArray) : s.data.toList.length = s.size := by rw [Array.length_toList]; rfl
theorem base_cell (hR : Rel ρ im H w) {v : Value} (h : Base.B g 0 = some v) : w.cell? ⟨g, 0, none⟩ = some v := hR.imc _ _ _ (hR.base _ _ _ h)

theorem pIndexByte_at (hc : ∀ (s : ByteArray) (c : Int) (w : World), Calls P f #[.string s, .int .u8 c] w fun e w' => e = .returned (.int .i64 (Lib.indexByte s.data.toList c.toNat.toUInt8)) ∧ w' = w) : PrimAt P f pIndexByte := by
  intro args H r h ρ im w vs hR hvs
  unfold pIndexByte at h
  split at h
  · rename_i s c
    cases h
    obtain ⟨v, u, rfl, h1, h2⟩ := hvs.two
    obtain ⟨b, rfl, rfl⟩ := str_inv h1
    obtain rfl := int_inv h2
    refine (hc b c w).mono ?_
    rintro e w' ⟨rfl, rfl⟩
    exact OutR.same hR (.int _ _)
  · cases h
theorem pCutSuffix_at (hc : ∀ (s p : ByteArray) (w : World), s.size ≤ 9223372036854775807 → Calls P f #[.string s, .string p] w fun e w' => e = .returned (.tuple #[.string ⟨(Lib.trimSuffix s.data.toList p.data.toList).toArray⟩, .bool (Lib.hasSuffix s.data.toList p.data.toList)]) ∧ w' = w) : PrimAt P f pCutSuffix := by
  intro args H r h ρ im w vs hR hvs
  unfold pCutSuffix at h
  split at h
  · rename_i s c
    split at h
    · rename_i hs
      cases h
      obtain ⟨v, u, rfl, h1, h2⟩ := hvs.two
      obtain ⟨b, rfl, rfl⟩ := str_inv h1
      obtain ⟨q, rfl, rfl⟩ := str_inv h2
      have hs' : b.size < 4294967281 := by simpa [shortS, size_list] using hs
      refine (hc b q w (by omega)).mono ?_
      rintro e w' ⟨rfl, rfl⟩
      exact OutR.same hR (.tup _ _ (.cons _ _ _ _ (str_mk _) (.cons _ _ _ _ (.bool _) .nil)))
    · cases h
  · cases h
theorem pCut_at (hB : ∃ m, Base.B g 0 = some (.int .i64 m)) (hc : ∀ (s sep : ByteArray) (m : Int) (w : World), s.size < 4294967281 → w.cell? ⟨g, 0, none⟩ = some (.int .i64 m) →
    Calls P f #[.string s, .string sep] w fun e w' => e = .returned (.tuple #[.string ⟨(Lib.cut s.data.toList sep.data.toList).1.toArray⟩, .string ⟨(Lib.cut s.data.toList sep.data.toList).2.1.toArray⟩, .bool (Lib.cut s.data.toList sep.data.toList).2.2]) ∧ ∃ n, w' = w.drewN n) : PrimAt P f pCut := by
  obtain ⟨m, hB⟩ := hB
  intro args H r h ρ im w vs hR hvs
  unfold pCut at h
  split at h
  · rename_i s c
    split at h
    · rename_i hs
      cases h
      obtain ⟨v, u, rfl, h1, h2⟩ := hvs.two
      obtain ⟨b, rfl, rfl⟩ := str_inv h1
      obtain ⟨q, rfl, rfl⟩ := str_inv h2
      have hs' : b.size < 4294967281 := by simpa [shortS, size_list] using hs
      refine (hc b q m w hs' (base_cell hR hB)).mono ?_
      rintro e w' ⟨rfl, n, rfl⟩
      exact OutR.drewN hR (.tup _ _ (.cons _ _ _ _ (str_mk _) (.cons _ _ _ _ (str_mk _) (.cons _ _ _ _ (.bool _) .nil))))
    · cases h
  · cases h
theorem pCount_at (hB : ∃ m, Base.B g 0 = some (.int .i64 m)) (hc : ∀ (s sep : ByteArray) (m : Int) (w : World), s.size < 4294967281 → w.cell? ⟨g, 0, none⟩ = some (.int .i64 m) → 1 ≤ sep.size →
    Calls P f #[.string s, .string sep] w fun e w' => e = .returned (.int .i64 (Lib.countB s sep)) ∧ w' = w) : PrimAt P f pCount := by
  obtain ⟨m, hB⟩ := hB
  intro args H r h ρ im w vs hR hvs
  unfold pCount at h
  split at h
  · rename_i s c
    split at h
    · rename_i hs
      obtain ⟨hs, hq⟩ := hs
      cases h
      obtain ⟨v, u, rfl, h1, h2⟩ := hvs.two
      obtain ⟨b, rfl, rfl⟩ := str_inv h1
      obtain ⟨q, rfl, rfl⟩ := str_inv h2
      have hs' : b.size < 4294967281 := by simpa [shortS, size_list] using hs
      refine (hc b q m w hs' (base_cell hR hB) (by simpa [size_list] using hq)).mono ?_
      rintro e w' ⟨rfl, rfl⟩
      exact OutR.same hR (.int _ _)
    · cases h
  · cases h
omit [Base] in
theorem strs_rep {n : Nat} : ∀ (l : List ByteArray), RepL ρ n im (l.map Value.string) (flatC ((l.map (·.data.toList)).map D.str))
  | [] => .nil
  | b :: l => by
    simp only [List.map_cons, flatC, List.flatMap_cons, D.cells, List.cons_append, List.nil_append]
    exact .cons _ _ _ _ rfl (.str b) (strs_rep l)
theorem pSplit_at {t : TypeId} (hB : ∃ m, Base.B g 0 = some (.int .i64 m)) (hc : ∀ (s sep : ByteArray) (m : Int) (w : World), s.size < 4294967281 → w.cell? ⟨g, 0, none⟩ = some (.int .i64 m) → 1 ≤ sep.size →
    Calls P f #[.string s, .string sep] w fun e w' => e = .returned (.slice (some ⟨w.heap.size, 0, none⟩) (Lib.countB s sep + 1) (Lib.countB s sep + 1)) ∧ w' = w.alloc (.cells ((Lib.splitB sep 0 (Lib.countB s sep) s).map Value.string).toArray t)) : PrimAt P f pSplit := by
  obtain ⟨m, hB⟩ := hB
  intro args H r h ρ im w vs hR hvs
  unfold pSplit at h
  split at h
  · rename_i s c
    split at h
    · rename_i hs
      obtain ⟨hs, hq⟩ := hs
      cases h
      obtain ⟨v, u, rfl, h1, h2⟩ := hvs.two
      obtain ⟨b, rfl, rfl⟩ := str_inv h1
      obtain ⟨q, rfl, rfl⟩ := str_inv h2
      have hs' : b.size < 4294967281 := by simpa [shortS, size_list] using hs
      have hq' : 1 ≤ q.size := by simpa [size_list] using hq
      refine (hc b q m w hs' (base_cell hR hB) hq').mono ?_
      rintro e w' ⟨rfl, rfl⟩
      have hlen : (Lib.splitB q 0 (Lib.countB b q) b).length = Lib.countB b q + 1 := Lib.splitB_all q hq' 0 _ b rfl
      have hsp : Lib.split b.data.toList q.data.toList = (Lib.splitB q 0 (Lib.countB b q) b).map (·.data.toList) := (Lib.splitB_data q 0 _ b).symm
      generalize hL : Lib.splitB q 0 (Lib.countB b q) b = L at hlen hsp
      rw [hsp]
      have hrel := hR.alloc (sz := 1) (cap := Lib.countB b q + 1) (xs := (L.map (·.data.toList)).map D.str) (c := (L.map Value.string).toArray) (t := t) (fz := (0, 0)) (by simp [hlen]) (by simp [D.cells]) (by simp [hlen])
        (by rw [List.take_of_length_le (by simp [hlen])]; exact strs_rep L) (.inr (Nat.le_refl _))
      refine .ok _ im _ _ _ _ ⟨hrel.1, ImLe.refl _, hrel.2, fun _ _ _ h => .inl h⟩ ?_
      have := vec_rep (n := (H ++ [Ob.arr ((L.map (·.data.toList)).map D.str)]).length) (im := im) (ρ := newR ρ H.length ⟨w.heap.size, 1, Lib.countB b q + 1, true⟩) (r := H.length) (m := Lib.countB b q + 1) (by simp) (newR_eq) (Nat.le_refl _)
      simpa [hlen] using this
    · cases h
  · cases h
end
end Vm
end
/- Functions of Go's library on lists of numbers: put in order. -/
section
set_option linter.unusedVariables false
set_option linter.unusedSimpArgs false
namespace Vm
open Go Go.RowKit Go.Sort
def insZ (x : Int) : List Int → List Int
  | [] => [x]
  | y :: l => if x ≤ y then x :: y :: l else y :: insZ x l
def sortZ (zs : List Int) : List Int := zs.foldr insZ []
theorem insZ_perm (x : Int) (l : List Int) : (insZ x l).Perm (x :: l) := by
  induction l with
  | nil => exact .refl _
  | cons y l ih =>
    unfold insZ
    split
    · exact .refl _
    · exact (ih.cons y).trans (.swap x y l)
theorem insZ_sorted (x : Int) (l : List Int) (h : l.Pairwise (· ≤ ·)) : (insZ x l).Pairwise (· ≤ ·) := by
  induction l with
  | nil => simp [insZ]
  | cons y l ih =>
    have h' := List.pairwise_cons.1 h
    unfold insZ
    split
    · rename_i hxy
      refine List.pairwise_cons.2 ⟨fun a ha => ?_, h⟩
      rcases List.mem_cons.1 ha with rfl | ha
      · exact hxy
      · exact Int.le_trans hxy (h'.1 a ha)
    · rename_i hxy
      refine List.pairwise_cons.2 ⟨fun a ha => ?_, ih h'.2⟩
      rcases List.mem_cons.1 ((insZ_perm x l).subset ha) with rfl | ha
      · omega
      · exact h'.1 a ha
theorem sortZ_perm (l : List Int) : (sortZ l).Perm l := by
  induction l with
  | nil => exact .refl _
  | cons x l ih => exact (insZ_perm x _).trans (ih.cons x)
theorem sortZ_sorted (l : List Int) : (sortZ l).Pairwise (· ≤ ·) := by
  induction l with
  | nil => exact .nil
  | cons x l ih => exact insZ_sorted x _ ih
theorem sorted_unique : ∀ {l l' : List Int}, l.Pairwise (· ≤ ·) → l'.Pairwise (· ≤ ·) → l.Perm l' → l = l'
  | [], l', _, _, h => by simpa using h.symm
  | x :: t, [], _, _, h => by simp at h
  | x :: t, y :: t', h1, h2, h => by
    have a1 := List.pairwise_cons.1 h1
    have a2 := List.pairwise_cons.1 h2
    have e : x = y := by
      have m1 : x ∈ y :: t' := h.subset (by simp)
      have m2 : y ∈ x :: t := h.symm.subset (by simp)
      rcases List.mem_cons.1 m1 with e | m1
      · exact e
      · rcases List.mem_cons.1 m2 with e | m2
        · exact e.symm
        · have := a2.1 x m1; have := a1.1 y m2; omega
    subst e
    rw [sorted_unique a1.2 a2.2 (List.Perm.cons_inv h)]
theorem sortZ_eq (zs : List Int) : (zs.mergeSort fun x y => decide (x ≤ y)) = sortZ zs := by
  refine sorted_unique ?_ (sortZ_sorted zs) ((List.mergeSort_perm zs _).trans (sortZ_perm zs).symm)
  have := List.pairwise_mergeSort (le := fun x y : Int => decide (x ≤ y)) (fun a b c h1 h2 => by simp at *; omega) (fun a b => by simp; omega) zs
  simpa using this
variable [Base]

def intsD : List D → Option (List Int)
  | [] => some []
  | .int .i64 n :: r => (intsD r).map (n :: ·)
  | _ => none
omit [Base] in
theorem intsD_eq : ∀ {xs : List D} {zs : List Int}, intsD xs = some zs → xs = zs.map (.int .i64)
  | [], zs, h => by cases h; rfl
  | x :: r, zs, h => by
    unfold intsD at h
    split at h
    · rename_i heq; cases heq
    · rename_i heq
      cases heq
      cases hr : intsD r with
      | none => rw [hr] at h; cases h
      | some l => rw [hr] at h; cases h; rw [intsD_eq hr]; rfl
    · cases h
omit [Base] in
theorem intsD_map (zs : List Int) : intsD (zs.map (.int .i64)) = some zs := by
  induction zs with
  | nil => rfl
  | cons z r ih => simp [intsD, ih]
def pSort : List D → Heap → Option R
  | [.vec r 0 n], H => match hget H r with
    | .arr xs => (intsD xs).bind fun zs => if n = zs.length ∧ zs.length < 4611686018427387904 ∧ 0 < zs.length then some (.ok (.tup []) (H.set r (.arr ((sortZ zs).map (.int .i64))))) else none
    | _ => none
  | [.sl _ []], H => some (.ok (.tup []) H)
  | _, _ => none
section
variable {P : Program} {ρ : Rho} {im : Im} {H : Heap} {w w' : World} {f : FuncId}
omit [Base] in
theorem repL_ints {n : Nat} : ∀ {vs : List Value} {zs : List Int}, RepL ρ n im vs (zs.map (.int .i64)) → vs = zs.map (.int .i64)
  | _, [], h => by cases h; rfl
  | _, z :: r, h => by
    cases h with
    | cons v d vs ds h1 h2 h3 =>
      cases h2
      rw [repL_ints h3]; rfl
omit [Base] in
theorem repL_ints_mk {n : Nat} (zs : List Int) : RepL ρ n im (zs.map (.int .i64)) (zs.map (.int .i64)) := by
  induction zs with
  | nil => exact .nil
  | cons z r ih => exact .cons _ _ _ _ rfl (.int _ _) ih
omit [Base] in
theorem flatC_ints (zs : List Int) : flatC (zs.map (D.int .i64)) = zs.map (.int .i64) := by
  induction zs with
  | nil => rfl
  | cons z r ih => simp only [List.map_cons, flatC, List.flatMap_cons] at *; rw [ih]; rfl
/-- a list of numbers in memory: what the library asks of it, and what is left when it is written anew -/
theorem row_ints (hR : Rel ρ im H w) {r : Nat} (hr2 : r < H.length) {zs : List Int} (hx : hget H r = .arr (zs.map (.int .i64))) (hpos : 0 < zs.length) :
    (ρ r).sz = 1 ∧ zs.length ≤ (ρ r).cap ∧ Holds (Value.int .i64) w (ρ r).b 0 zs.toArray ∧ (ρ r).b < w.heap.size ∧
      ∀ (ts : List Int) (m : Nat), ts.length = zs.length → Mv ρ im H w ρ im (H.set r (.arr (ts.map (.int .i64)))) (putRow (Value.int .i64) (Sort.ahead w m) (ρ r).b 0 ts.toArray) := by
  have hob := hR.obj r hr2
  rw [hx] at hob
  obtain ⟨c, ty, fz, h1, h2, h3, h4, h5, h6⟩ := hob
  have hsz : (ρ r).sz = 1 := by
    cases zs with
    | nil => simp at hpos
    | cons z zr => exact (h3 (.int .i64 z) (by simp)).symm
  rw [hsz, Nat.mul_one, List.length_map, flatC_ints] at h5
  have h5' := repL_ints h5
  rw [hsz, Nat.mul_one] at h2
  rw [List.length_map] at h4
  have hH : Holds (Value.int .i64) w (ρ r).b 0 zs.toArray := by
    intro j hj
    have hj' : j < zs.length := by simpa using hj
    have hjc : j < c.size := by omega
    have e1 : c.toList[j]? = some (.int .i64 zs[j]) := by
      have : (c.toList.take zs.length)[j]? = (zs.map (Value.int .i64))[j]? := by rw [h5']
      rw [List.getElem?_take_of_lt hj'] at this
      rw [this]; simp [hj']
    refine ⟨?_, ?_⟩
    · simp only [World.cell?, h1, Nat.zero_add]
      simp only [Option.isSome_none, Bool.false_eq_true, if_false]
      rw [← Array.getElem?_toList, e1]
      simp [hj']
    · simp only [World.frozen?, h1]
      simp only [Bool.and_eq_false_iff, decide_eq_false_iff_not]
      omega
  have hblk : (ρ r).b < w.heap.size := (Array.getElem?_eq_some_iff.1 h1).1
  refine ⟨hsz, h4, hH, hblk, fun ts m hs => ?_⟩
  have hl : live (hget H r) := by rw [hx]; trivial
  have hrow : (putRow (Value.int .i64) (Sort.ahead w m) (ρ r).b 0 ts.toArray).heap[(ρ r).b]? = some (.cells (putCells (Value.int .i64) 0 ts.toArray c) ty fz) := by
    simp [putRow, mapBlock, Sort.ahead, Array.getElem?_modify, h1, onCells]
  have hoth : ∀ b, b ≠ (ρ r).b → (putRow (Value.int .i64) (Sort.ahead w m) (ρ r).b 0 ts.toArray).heap[b]? = w.heap[b]? := by
    intro b hb
    have : (ρ r).b ≠ b := fun e => hb e.symm
    simp [putRow, mapBlock, Sort.ahead, Array.getElem?_modify, this]
  have htake : (putCells (Value.int .i64) 0 ts.toArray c).toList.take ts.length = ts.map (Value.int .i64) := by
    apply List.ext_getElem?
    intro j
    by_cases hj : j < ts.length
    · rw [List.getElem?_take_of_lt hj, Array.getElem?_toList]
      simp [putCells, hj, show j < c.size by omega]
    · rw [List.getElem?_take_eq_none (by omega), List.getElem?_eq_none (by simp; omega)]
  have hok : ObOk ρ H.length im (putRow (Value.int .i64) (Sort.ahead w m) (ρ r).b 0 ts.toArray) (ρ r) (.arr (ts.map (.int .i64))) := by
    refine ⟨_, ty, fz, hrow, by simp [putCells, h2, hsz], ?_, by simp [hs]; exact h4, ?_, by simpa [putCells] using h6⟩
    · intro x hx'
      obtain ⟨z, -, rfl⟩ := List.mem_map.1 hx'
      rw [hsz]; rfl
    · rw [hsz, Nat.mul_one, List.length_map, flatC_ints, htake]
      exact repL_ints_mk _
  exact ⟨hR.setOb hr2 hl hoth hok, ImLe.refl _, Tr.setOb hr2 hl hoth (by simp [putRow, mapBlock, Sort.ahead]) rfl rfl rfl, fun _ _ _ h => .inl h⟩
theorem pSort_at (hc : ∀ (blk cap : Nat) (zs : List Int) (w : World), Holds (Value.int .i64) w blk 0 zs.toArray → blk < w.heap.size → zs.length < 4611686018427387904 →
      Calls P f #[.slice (some ⟨blk, 0, none⟩) zs.length cap] w fun e w' => e = .returned (.tuple #[]) ∧ ∃ n os, w' = grow (putRow (Value.int .i64) (Sort.ahead w n) blk 0 (zs.mergeSort fun x y => decide (x ≤ y)).toArray) os)
    (hc0 : ∀ (p : Option Addr) (cap : Nat) (w : World), Calls P f #[.slice p 0 cap] w fun e w' => e = .returned (.tuple #[]) ∧ w' = w) : PrimAt P f pSort := by
  intro args H r h ρ im w vs hR hvs
  unfold pSort at h
  split at h
  · rename_i r n
    split at h
    · rename_i xs hx
      cases hz : intsD xs with
      | none => rw [hz] at h; cases h
      | some zs =>
        rw [hz] at h
        simp only [Option.bind_some] at h
        split at h
        · rename_i hn
          obtain ⟨rfl, hlen, hpos⟩ := hn
          cases h
          have hxs := intsD_eq hz
          subst hxs
          cases hvs with
          | cons v d vs ds hv hr =>
            cases hr
            cases hv with
            | vec _ _ _ hr2 hcap =>
              obtain ⟨hsz, hcap2, hH, hblk, hmv⟩ := row_ints hR hr2.lt hx hpos
              rw [Nat.zero_mul]
              refine (hc (ρ r).b _ zs w hH hblk hlen).mono ?_
              rintro e w' ⟨rfl, m, os, hw⟩
              rw [sortZ_eq] at hw
              subst hw
              have m1 := hmv (sortZ zs) m (sortZ_perm zs).length_eq
              have hgrow : ∀ b, b < (putRow (Value.int .i64) (Sort.ahead w m) (ρ r).b 0 (sortZ zs).toArray).heap.size → (grow (putRow (Value.int .i64) (Sort.ahead w m) (ρ r).b 0 (sortZ zs).toArray) os).heap[b]? = (putRow (Value.int .i64) (Sort.ahead w m) (ρ r).b 0 (sortZ zs).toArray).heap[b]? :=
                fun b hb => heap_grow_old _ _ hb
              have m2 := m1.trans ⟨m1.rel.world hgrow, ImLe.refl _, Tr.world hgrow (by simp [grow]) rfl rfl rfl, fun _ _ _ h => .inl h⟩
              exact .ok ρ im _ _ _ _ m2 (.tup [] [] .nil)
        · cases h
    · cases h
  · rename_i f2
    cases h
    cases hvs with
    | cons v d vs ds hv hr =>
      cases hr
      cases hv with
      | sl0 a cap f hf =>
        refine (hc0 a cap w).mono ?_
        rintro e w' ⟨rfl, rfl⟩
        exact OutR.same hR (.tup [] [] .nil)
      | sl b o sz cap f xs vs hs hc' h hf hcap =>
        refine (hc0 _ cap w).mono ?_
        rintro e w' ⟨rfl, rfl⟩
        exact OutR.same hR (.tup [] [] .nil)
  · cases h
/-- each number but once, of those that stand together; what is left over is nothing -/
def compactZ (zs : List Int) : List Int := Lib.compact zs ++ List.replicate (zs.length - (Lib.compact zs).length) 0
def pCompact : List D → Heap → Option R
  | [.vec r 0 n], H => match hget H r with
    | .arr xs => (intsD xs).bind fun zs => if n = zs.length ∧ zs.length < 4611686018427387904 ∧ 0 < zs.length ∧ (Lib.compact zs).length ≤ zs.length then some (.ok (.vec r 0 (Lib.compact zs).length) (H.set r (.arr ((compactZ zs).map (.int .i64))))) else none
    | _ => none
  | [.sl f []], H => some (.ok (.sl f []) H)
  | _, _ => none
theorem pCompact_at (hc : ∀ (blk cap : Nat) (zs : List Int) (w : World), Holds (Value.int .i64) w blk 0 zs.toArray → zs.length ≤ 9223372036854775807 → zs.length ≤ cap →
      Calls P f #[.slice (some ⟨blk, 0, none⟩) zs.length cap] w fun e w' => e = .returned (.slice (some ⟨blk, 0, none⟩) (Lib.compact zs).length cap) ∧ ∃ q, w' = putRow (Value.int .i64) (Sort.ahead w q) blk 0 (Lib.compact zs ++ List.replicate (zs.length - (Lib.compact zs).length) 0).toArray)
    (hc0 : ∀ (p : Option Addr) (cap : Nat) (w : World), Calls P f #[.slice p 0 cap] w fun e w' => e = .returned (.slice p 0 cap) ∧ w' = w) : PrimAt P f pCompact := by
  intro args H r h ρ im w vs hR hvs
  unfold pCompact at h
  split at h
  · rename_i r n
    split at h
    · rename_i xs hx
      cases hz : intsD xs with
      | none => rw [hz] at h; cases h
      | some zs =>
        rw [hz] at h
        simp only [Option.bind_some] at h
        split at h
        · rename_i hn
          obtain ⟨rfl, hlen, hpos, hle⟩ := hn
          cases h
          have hxs := intsD_eq hz
          subst hxs
          cases hvs with
          | cons v d vs ds hv hr =>
            cases hr
            cases hv with
            | vec _ _ _ hr2 hcap =>
              obtain ⟨hsz, hcap2, hH, hblk, hmv⟩ := row_ints hR hr2.lt hx hpos
              rw [Nat.zero_mul]
              refine (hc (ρ r).b _ zs w hH (by omega) (by omega)).mono ?_
              rintro e w' ⟨rfl, q, rfl⟩
              have m1 := hmv (compactZ zs) q (by simp [compactZ]; omega)
              have hrep := Rep.vec (ρ := ρ) (n := (H.set r (.arr ((compactZ zs).map (D.int .i64)))).length) (im := im) r 0 (Lib.compact zs).length (by simpa using hr2) (by omega)
              rw [Nat.zero_mul] at hrep
              exact .ok ρ im _ _ _ _ m1 hrep
        · cases h
    · cases h
  · rename_i f2
    cases h
    cases hvs with
    | cons v d vs ds hv hr =>
      cases hr
      cases hv with
      | sl0 a cap f hf =>
        refine (hc0 a cap w).mono ?_
        rintro e w' ⟨rfl, rfl⟩
        exact OutR.same hR (.sl0 _ _ _ hf)
      | sl b o sz cap f xs vs hs hc' h hf hcap =>
        refine (hc0 _ cap w).mono ?_
        rintro e w' ⟨rfl, rfl⟩
        exact OutR.same hR (.sl0 _ _ _ (fun h => by simpa using hf h))
  · cases h
end
end Vm
end
/- Calls that wait, and what comes back. -/
section
set_option linter.unusedVariables false
set_option linter.unusedSimpArgs false
namespace Vm
open Go
section
variable {P : Program} {A : Ann} {N : Nat}
variable {rs : List ResultVar} {K Kp : D → Heap → Prop} {e : Env} {H : Heap} {l : List Dfr}
def pushF (P : Program) (e : Env) : Option (List Dfr) → Option (List D) → Option D → Option Env
  | some l, some args, some (.fn g cs) => if bodied P g then some ⟨e.f, some (.call g (args ++ cs) :: l)⟩ else none
  | _, _, _ => none
theorem pushD_eq {P : Program} {e : Env} {f : Operand} {args : Array Operand} {ts : Array TypeId} : pushD P e ⟨.value f, args, ts⟩ = pushF P e e.df (evalOs e args.toList) (evalO e f) := by
  unfold pushD
  cases h1 : e.df with
  | none => rfl
  | some l =>
    simp only [Option.bind_some]
    cases h2 : evalOs e args.toList with
    | none => rfl
    | some as1 =>
      simp only [Option.bind_some]
      cases h3 : evalO e f with
      | none => rfl
      | some d => cases d <;> rfl
theorem pushF_fn {P : Program} {e : Env} {l : List Dfr} {args cs : List D} {g : FuncId} : pushF P e (some l) (some args) (some (.fn g cs)) = if bodied P g then some ⟨e.f, some (.call g (args ++ cs) :: l)⟩ else none := rfl
attribute [go_sem] pushD_eq pushF_fn
end
end Vm
end
/- Guards that are not settled: both ways. -/
section
set_option linter.unusedVariables false
namespace Vm
open Go
section
variable {P : Program} {A : Ann} {N : Nat} {S : List (Option Nat)} {o : Oper} {rest : List Oper} {e : Env} {H : Heap} {K : Env → Heap → Prop} {Kp : D → Env → Heap → Prop}
theorem stepsB_both {b : Bool} {dc : Option Call} (h1 : b = true → stepsB (some true) dc P A N S o rest e H K Kp) (h2 : b = false → stepsB (some false) dc P A N S o rest e H K Kp) : stepsB (some b) dc P A N S o rest e H K Kp := by
  cases b
  · exact h2 rfl
  · exact h1 rfl
theorem stepsXB_both {b : Bool} {prs : List (List Nat × List Nat)} (h1 : b = true → stepsXB (some true) P A N S prs o rest e H K) (h2 : b = false → stepsXB (some false) P A N S prs o rest e H K) : stepsXB (some b) P A N S prs o rest e H K := by
  cases b
  · exact h2 rfl
  · exact h1 rfl
end
end Vm
namespace Vm
open Go
/-- how great what lies first in an object is -/
def vecO (o : Ob) (n : Nat) : Bool :=
  match o with
  | .arr (x :: _) | .fro (x :: _) => x.cells.length == n
  | _ => false
theorem vecSize_o {H : Heap} {r n : Nat} : vecSize H r n = vecO (hget H r) n := by
  unfold vecSize vecO; rfl
theorem vecO_arr {xs : List D} {n : Nat} (h : xs ≠ []) (hs : headSize n xs = true) : vecO (.arr xs) n = true := by
  cases xs with
  | nil => exact absurd rfl h
  | cons x l => exact hs
end Vm
end
/- Loops by a measure that the invariant names; how many are not in a table. -/
section
set_option linter.unusedVariables false
namespace Vm
open Go
theorem wpB_loopM {P : Program} {A : Ann} {N : Nat} {e : Env} {H : Heap} {Q : Ex → Env → Heap → Prop} {b : Code} (I : Nat → Env → Heap → Prop) (m0 : Nat) (h0 : I m0 e H)
    (hstep : ∀ m e H, I m e H → ∀ R : Env → Heap → Prop, (∀ m' e' H', I m' e' H' → m' < m → R e' H') → WpB P A N b e H (SeqQ R Q)) : WpB P A N (.loop b) e H Q := by
  have hf : ∀ (e : Env) (H : Heap), ∃ f : Nat, (∃ m, I m e H) → (I f e H ∧ ∀ m, I m e H → f ≤ m) := by
    intro e H
    by_cases h : ∃ m, I m e H
    · obtain ⟨m, hm⟩ := h
      induction m using Nat.strongRecOn with
      | _ m ih =>
        by_cases hl : ∃ m', m' < m ∧ I m' e H
        · obtain ⟨m', h1, h2⟩ := hl
          exact ih m' h1 h2
        · exact ⟨m, fun _ => ⟨hm, fun m' h' => Nat.le_of_not_lt fun hlt => hl ⟨m', hlt, h'⟩⟩⟩
    · exact ⟨0, fun h' => absurd h' h⟩
  let μ : Env → Heap → Nat := fun e H => Classical.choose (hf e H)
  have hμ : ∀ e H, (∃ m, I m e H) → (I (μ e H) e H ∧ ∀ m, I m e H → μ e H ≤ m) := fun e H => Classical.choose_spec (hf e H)
  refine wpB_loop (fun e H => ∃ m, I m e H) μ ⟨m0, h0⟩ fun e H hI R hR => ?_
  have h1 := hμ e H hI
  refine hstep (μ e H) e H h1.1 R fun m' e' H' h2 h3 => hR e' H' ⟨m', h2⟩ ?_
  exact Nat.lt_of_le_of_lt ((hμ e' H' ⟨m', h2⟩).2 m' h2) h3
/-- how many below a bound aren't in a table -/
def cntF (q : Nat → Bool) : Nat → Nat
  | 0 => 0
  | k + 1 => cntF q k + if q k then 0 else 1
theorem cntF_le {q q' : Nat → Bool} : ∀ {k : Nat}, (∀ s, s < k → q s = true → q' s = true) → cntF q' k ≤ cntF q k
  | 0, _ => Nat.le_refl _
  | k + 1, h => by
    have h1 := cntF_le (k := k) fun s hs => h s (by omega)
    have h2 := h k (by omega)
    simp only [cntF]
    cases hq : q k
    · cases q' k <;> simp <;> omega
    · rw [h2 hq]; simp; exact h1
theorem cntF_lt {q q' : Nat → Bool} : ∀ {k : Nat}, (∀ s, s < k → q s = true → q' s = true) → (∃ s, s < k ∧ q s = false ∧ q' s = true) → cntF q' k < cntF q k
  | 0, _, ⟨s, h, _⟩ => by omega
  | k + 1, h, ⟨s, h1, h2, h3⟩ => by
    have h4 := cntF_le (k := k) fun s hs => h s (by omega)
    simp only [cntF]
    by_cases e : s = k
    · subst e
      rw [h2, h3]; simp; omega
    · have h5 := cntF_lt (k := k) (fun s hs => h s (by omega)) ⟨s, by omega, h2, h3⟩
      have h6 := h k (by omega)
      cases hq : q k
      · cases q' k <;> simp <;> omega
      · rw [h6 hq]; simp; exact h5
/-- plain lists, told one by one -/
def stripS (l : List D) : Option (List D) := stripL l
def consO (d : Option D) (l : Option (List D)) : Option (List D) := d.bind fun d => l.map (d :: ·)
theorem consO_some {d : D} {l : List D} : consO (some d) (some l) = some (d :: l) := rfl
theorem stripS_nil : stripS [] = some [] := rfl
theorem stripS_cons {d : D} {l : List D} : stripS (d :: l) = consO (strip d) (stripS l) := by
  unfold stripS consO
  rw [stripL]
def fzM (b : Prop) [Decidable b] (ys : Option (List D)) (H : Heap) : Option R := fzN b ys H
theorem fzN_S {b : Prop} [Decidable b] {xs : List D} {H : Heap} : fzN b (stripL xs) H = fzM b (stripS xs) H := rfl
theorem fzM_true {ys : List D} {H : Heap} : fzM True (some ys) H = some (.ok (.sl false ys) H) := rfl
theorem fzM_eq {n : Nat} {ys : List D} {H : Heap} : fzM (n = n) (some ys) H = some (.ok (.sl false ys) H) := by simp [fzM, fzN]
theorem strip_intR {k : IntKind} {n : Int} : strip (.int k n) = some (.int k n) := rfl
theorem strip_boolR {b : Bool} : strip (.bool b) = some (.bool b) := rfl
theorem strip_strR {s : List UInt8} : strip (.str s) = some (.str s) := rfl
attribute [go_sem] consO_some stripS_nil stripS_cons fzN_S fzM_true fzM_eq strip_intR strip_boolR strip_strR
/-- what the driver closes -/
theorem gs {p : Prop} (h : p := by simp (maxSteps := 1000000) (dsimp := false) (disch := omega) only [go_sem, simprocAttr, *]) : p := h

section
variable {P : Program} {A : Ann} {N : Nat} {e : Env} {H : Heap} {Q : Ex → Env → Heap → Prop}
theorem wz1 {a b : Code} (h : WpB P A N a e H (SeqQ (fun e H => WpB P A N b e H Q) Q)) : WpB P A N (.seq a b) e H Q := wpB_seq h
theorem wz2 {id : Nat} {l : List Oper} (h : vOpsB P A N (l.map (·.dst)) l e H (fun e H => Q .norm e H) (fun d e H => Q (.pan d) e H)) : WpB P A N (.region id l.toArray false) e H Q := wpB_regionL rfl h
theorem wz3 {id : Nat} {b : Code} (h : WpB P A N b e H (BlkQ id (fun e H => Q .norm e H) Q)) : WpB P A N (.block id b) e H Q := wpB_block h
theorem wz4 (h : Q .norm e H) : WpB P A N .skip e H Q := wpB_skip h
theorem wz5 {id : Nat} (h : Q (.exit id) e H) : WpB P A N (.exit id) e H Q := wpB_exit h
theorem wz6 (h : Q .ret e H) : WpB P A N .ret e H Q := wpB_ret h
theorem wz7 {c : Operand} {x y : Code} {b : Bool} (ht : b = true → WpB P A N x e H Q) (hf : b = false → WpB P A N y e H Q) (hc : evalO e c = some (.bool b) := by simp -dsimp (maxSteps:=999999) (disch:=omega) only[go_sem,simprocAttr, *]; exact rfl) : WpB P A N (.cond c x y) e H Q := wpB_cond hc ht hf
end
section
variable {P : Program} {A : Ann} {N : Nat} {S : List (Option Nat)} {o : Oper} {rest : List Oper} {e : Env} {H : Heap}
theorem wz8 {K : Env → Heap → Prop} {Kp : D → Env → Heap → Prop} {b : Bool} {dc : Option Call} (h1 : b = true → stepsB (some true) dc P A N S o rest e H K Kp) (h2 : b = false → stepsB (some false) dc P A N S o rest e H K Kp) : stepsB (some b) dc P A N S o rest e H K Kp := stepsB_both h1 h2
theorem wz9 {K : Env → Heap → Prop} {b : Bool} {prs : List (List Nat × List Nat)} (h1 : b = true → stepsXB (some true) P A N S prs o rest e H K) (h2 : b = false → stepsXB (some false) P A N S prs o rest e H K) : stepsXB (some b) P A N S prs o rest e H K := stepsXB_both h1 h2
end
theorem vqs {p q : Prop} (h : p) (e : p = q := by first | (simp -dsimp (maxSteps:=999999) (disch:=omega) only[go_sem,simprocAttr,decide_eq_true_eq,decide_eq_false_iff_not,Bool.not_eq_true,Bool.not_eq_false,Bool.not_eq_true',Bool.not_eq_false',Int.not_lt,Int.not_le,bne_iff_ne,bne_eq_false_iff_eq,beq_iff_eq,beq_eq_false_iff_ne,ne_eq,Int.ofNat_inj,Int.natCast_inj]; done) | (simp -dsimp (maxSteps:=999999) (disch:=omega) only[go_sem,simprocAttr,decide_eq_true_eq,decide_eq_false_iff_not,Bool.not_eq_true,Bool.not_eq_false,Bool.not_eq_true',Bool.not_eq_false',Int.not_lt,Int.not_le,bne_iff_ne,bne_eq_false_iff_eq,beq_iff_eq,beq_eq_false_iff_ne,ne_eq,Int.ofNat_inj,Int.natCast_inj]; exact rfl) | exact rfl) : q := e ▸ h
end Vm
end
/- The chapter on machines without free steps: the functions that are taken as they are, those that write what others hold; a run. -/
section
set_option maxHeartbeats 4000000
set_option linter.unusedVariables false
set_option linter.unusedSimpArgs false
-- use:
namespace Go.Proofs.W
open Go Vm Go.Proofs.Zs7z

def states : List Nat := [65, 76, 77, 78, 94, 95, 102, 105, 106, 64, 54, 42, 57, 34, 36, 37, 55, 56, 18]
/-- the least rule that ends at some states; -1: none does -/
def ruleL (rs : List D) : List D → Int → Option Int
  | [], out => some out
  | .int .i64 s :: xs, out => if 0 ≤ s then (match rs[s.toNat]? with
    | some (.int .i64 r) => ruleL rs xs (if r ≥ 0 ∧ (out < 0 ∨ r < out) then r else out)
    | _ => none) else none
  | _, _ => none
def ruleG : List D → List Ob → Option D
  | [.ptr _ 0 0, .sl _ xs], [.arr [.agg [_, _, _, .sl _ rs, _, _, _, _]]] => if xs.length ≤ 1000000 then (ruleL rs xs (-1)).map (.int .i64) else none
  | _, _ => none
def A : Ann := { mode := fun f => if states.contains f then .state else .pure, prim := fun f =>
  if f = 28 then some pSplit else if f = 27 then some pCount else if f = 48 then some pCut else if f = 49 then some pCutSuffix else if f = 108 then some pIndexByte else if f = 58 then some pSort else if f = 59 then some pCompact else none, fz := fun t => t == 26, rd := fun f => if f = 38 then some ruleG else none }
theorem A_fz (t : TypeId) : A.fz t = (t == 26) := rfl
attribute [go_sem] A_fz
def okTrue : Option R → Bool
  | some (.ok (.bool b) _) => b
  | _ => false
theorem alive_run : okTrue (runF Tryz.prog A 100 4 [] []) = true := by kernel_rfl
end Go.Proofs.W
end
/- What a statement's arguments read as, as the interpreter's data. -/
section
set_option linter.unusedVariables false
set_option linter.unusedSimpArgs false
namespace Vm
open Go Go.RowKit
variable [Base]

/-- the fields of a struct lie one behind the other -/
def laysT (P : Program) : Nat → List Field → Option Nat
  | off, [] => some off
  | off, f :: r => if f.offset = off then laysT P (off + P.cellsOf f.type) r else none
/-- types of plain data: numbers, bools, texts, slices, structs and arrays of these; their parts are in a set -/
def plain1 (P : Program) (S : List TypeId) (t : TypeId) : Bool :=
  match P.underlying t with
  | some .bool | some (.int _) | some .string => P.cellsOf t == 1
  | some (.slice e) => P.cellsOf t == 1 && S.contains e && decide (0 < P.cellsOf e)
  | some (.struct fs) => (laysT P 0 fs.toList == some (P.cellsOf t)) && fs.toList.all fun f => S.contains f.type
  | some (.array n e) => (P.cellsOf t == n * P.cellsOf e) && S.contains e
  | _ => false
/-- a set of types whose parts are in it -/
def plainS (P : Program) (S : List TypeId) : Bool := S.all (plain1 P S)
omit [Base] in
theorem plain1_of {P : Program} {S : List TypeId} (h : plainS P S = true) {t : TypeId} (ht : S.contains t = true) : plain1 P S t = true :=
  List.all_eq_true.1 h t (by simpa using ht)
def aggT (P : Program) (t : TypeId) : Bool := (isAggT P t).getD false
mutual
/-- cells of a type -/
inductive Typed (P : Program) : TypeId → List D → Prop
  | bool (t : TypeId) (b : Bool) (h : P.underlying t = some .bool) : Typed P t [.bool b]
  | int (t : TypeId) (k : IntKind) (n : Int) (h : P.underlying t = some (.int k)) (hn : (Lit.int k n).wf = true) : Typed P t [.int k n]
  | str (t : TypeId) (s : List UInt8) (h : P.underlying t = some .string) (hs : s.length ≤ maxLen) : Typed P t [.str s]
  | slice (t e : TypeId) (xs : List D) (h : P.underlying t = some (.slice e)) (hl : xs.length ≤ maxLen) (hx : TypedE P e xs) : Typed P t [.sl false xs]
  | struct (t : TypeId) (fs : Array Field) (ds : List D) (h : P.underlying t = some (.struct fs)) (hf : TypedF P (fs.toList.map (·.type)) ds) : Typed P t ds
  | array (t e : TypeId) (n : Nat) (ds : List D) (h : P.underlying t = some (.array n e)) (hf : TypedF P (List.replicate n e) ds) : Typed P t ds
/-- elements of a type -/
inductive TypedE (P : Program) : TypeId → List D → Prop
  | nil (e : TypeId) : TypedE P e []
  | agg (e : TypeId) (cs : List D) (xs : List D) (ha : aggT P e = true) (h : Typed P e cs) (hr : TypedE P e xs) : TypedE P e (.agg cs :: xs)
  | one (e : TypeId) (x : D) (xs : List D) (ha : aggT P e = false) (h : Typed P e [x]) (hr : TypedE P e xs) : TypedE P e (x :: xs)
/-- cells of types, one behind the other -/
inductive TypedF (P : Program) : List TypeId → List D → Prop
  | nil : TypedF P [] []
  | cons (t : TypeId) (ts : List TypeId) (ds es : List D) (h : Typed P t ds) (hr : TypedF P ts es) : TypedF P (t :: ts) (ds ++ es)
end
/-- arguments of types -/
inductive TypedA (P : Program) : List TypeId → List D → Prop
  | nil : TypedA P [] []
  | agg (t : TypeId) (ts : List TypeId) (cs ds : List D) (ha : aggT P t = true) (h : Typed P t cs) (hr : TypedA P ts ds) : TypedA P (t :: ts) (.agg cs :: ds)
  | one (t : TypeId) (ts : List TypeId) (d : D) (ds : List D) (ha : aggT P t = false) (h : Typed P t [d]) (hr : TypedA P ts ds) : TypedA P (t :: ts) (d :: ds)

def im0 (w : World) : Im := fun b o => w.cell? ⟨b, o, none⟩
theorem rel0 (w : World) (ρ : Rho) (hB : ∀ b o v, Base.B b o = some v → im0 w b o = some v) : Rel ρ (im0 w) [] w :=
  ⟨fun b o v h => h, fun r hr => by simp at hr, fun r s hr => by simp at hr, fun r hr => by simp at hr, hB, fun r hr => by simp at hr⟩

omit [Base] in
omit [Base] in
theorem cells?_spec {w : World} {a : Addr} {m : Nat} {cs : List Value} (h : w.cells? 0 a m = some cs) : cs.length = m ∧ ∀ j, j < m → w.cell? (a.add j) = cs[j]? := by
  unfold World.cells? at h
  rw [if_pos (Nat.zero_le _)] at h
  have key : ∀ (l : List Nat) (cs : List Value), l.mapM (fun i => w.cell? (a.add i)) = some cs → cs.length = l.length ∧ ∀ (j : Nat) (i : Nat), l[j]? = some i → w.cell? (a.add i) = cs[j]? := by
    intro l
    induction l with
    | nil => intro cs h; simp at h; subst h; simp
    | cons x l ih =>
      intro cs h
      rw [List.mapM_cons] at h
      cases hx : w.cell? (a.add x) with
      | none => simp [hx] at h
      | some v =>
        cases hl : l.mapM (fun i => w.cell? (a.add i)) with
        | none => simp [hx, hl] at h
        | some vs =>
          simp [hx, hl] at h; subst h
          obtain ⟨h1, h2⟩ := ih vs hl
          refine ⟨by simp [h1], fun j i hj => ?_⟩
          cases j with
          | zero => simp at hj; subst hj; simp [hx]
          | succ j => simpa using h2 j i (by simpa using hj)
  obtain ⟨h1, h2⟩ := key _ _ h
  refine ⟨by simpa using h1, fun j hj => h2 j j (by simp [hj])⟩
omit [Base] in
theorem add_add (a : Addr) (x y : Nat) (hs : a.spot = none) : (a.add x).add y = a.add (x + y) := by
  obtain ⟨b, o, s⟩ := a
  simp at hs; subst hs
  simp [add_plain, Nat.add_assoc]
omit [Base] in
theorem typed_one {P : Program} {t : TypeId} {ds : List D} (h : Typed P t ds) (ha : aggT P t = false) : ∃ d, ds = [d] ∧ (∀ cs, d ≠ .agg cs) := by
  cases h with
  | bool b h => exact ⟨_, rfl, fun cs h => by cases h⟩
  | int k n h hn => exact ⟨_, rfl, fun cs h => by cases h⟩
  | str s h hs => exact ⟨_, rfl, fun cs h => by cases h⟩
  | slice e xs h hl hx => exact ⟨_, rfl, fun cs h => by cases h⟩
  | struct => rename_i h hf; simp [aggT, isAggT, h] at ha
  | array => rename_i h hf; simp [aggT, isAggT, h] at ha
section
variable {H : Type} {enc : TypeId × Value → H} {P : Program} {w : World} {spare : Nat → Bool} {ρ : Rho} {n : Nat}
omit [Base] in
theorem trod_struct_eq {k : Nat} {t : TypeId} {cs : List Value} {fs : Array Field} (hu : P.underlying t = some (.struct fs)) : DataW.trod enc P w 0 spare true (k + 1) t cs =
    if cs.length = P.cellsOf t then (fs.toList.mapM fun f => DataW.trod enc P w 0 spare true k f.type ((cs.drop f.offset).take (P.cellsOf f.type))).map fun xs => (.agg (xs.map (·.1)), xs.flatMap (·.2)) else none := by
  conv => lhs; unfold DataW.trod
  rw [hu]
omit [Base] in
theorem trod_array_eq {k m : Nat} {t e : TypeId} {cs : List Value} (hu : P.underlying t = some (.array m e)) : DataW.trod enc P w 0 spare true (k + 1) t cs =
    if cs.length = P.cellsOf t then ((List.range m).mapM fun i => DataW.trod enc P w 0 spare true k e ((cs.drop (i * P.cellsOf e)).take (P.cellsOf e))).map fun xs => (.agg (xs.map (·.1)), xs.flatMap (·.2)) else none := by
  conv => lhs; unfold DataW.trod
  rw [hu]
omit [Base] in
theorem trod_typed {S : List TypeId} (hS : plainS P S = true) : ∀ (k : Nat) (t : TypeId) (cs : List Value) (x : DataW H × List MemPlace), DataW.trod enc P w 0 spare true k t cs = some x → S.contains t = true →
    ∃ ds, RepL ρ n (im0 w) cs ds ∧ Typed P t ds
  | 0, t, cs, x, h, hp => by simp [DataW.trod] at h
  | k + 1, t, cs, x, h, hp => by
    have ih := fun t cs x => trod_typed hS k t cs x
    replace hp := plain1_of hS hp
    simp only [plain1] at hp
    cases hu : P.underlying t with
    | none => simp [hu] at hp
    | some td =>
      rw [hu] at hp
      have h' := h
      unfold DataW.trod at h
      rw [hu] at h
      cases td <;> simp only at hp <;> try (cases hp; done)
      case bool =>
        split at h <;> rename_i heq <;> first | (cases heq; done) | skip
        all_goals (first | (cases h; done) | skip)
        rename_i b
        exact ⟨[.bool b], .cons _ _ _ _ rfl (.bool b) .nil, .bool t b hu⟩
      case int kk =>
        split at h <;> rename_i heq <;> first | (cases heq; done) | skip
        all_goals (first | (cases h; done) | skip)
        cases heq
        split at h
        · rename_i hc
          obtain ⟨rfl, hw⟩ := hc
          exact ⟨[.int _ _], .cons _ _ _ _ rfl (.int _ _) .nil, .int t _ _ hu hw⟩
        · cases h
      case string =>
        split at h <;> rename_i heq <;> first | (cases heq; done) | skip
        all_goals (first | (cases h; done) | skip)
        rename_i s
        split at h
        · rename_i hc
          have hl : s.data.toList.length = s.size := by rw [Array.length_toList]; rfl
          exact ⟨[.str s.data.toList], .cons _ _ _ _ rfl (.str s) .nil, .str t _ hu (by omega)⟩
        · cases h
      case slice e =>
        simp only [Bool.and_eq_true, decide_eq_true_eq] at hp
        obtain ⟨⟨_, hpe⟩, hpos⟩ := hp
        split at h <;> rename_i heq <;> first | (cases heq; done) | skip
        all_goals (first | (cases h; done) | skip)
        · cases heq
          exact ⟨[.sl false []], .cons _ _ _ _ rfl (.sl0 _ _ _ (by simp)) .nil, .slice t e [] hu (Nat.zero_le _) (.nil e)⟩
        · rename_i a len cap
          cases heq
          split at h
          · rename_i hc
            obtain ⟨_, hlc, hcm⟩ := hc
            dsimp only at h
            cases hm : (List.range len).mapM (fun i => (w.cells? 0 (a.add (i * P.cellsOf e)) (P.cellsOf e)).bind (DataW.trod enc P w 0 spare true k e)) with
            | none => rw [hm] at h; simp at h
            | some elems =>
              -- element by element
              have key : ∀ (l : List Nat) (el : List (DataW H × List MemPlace)), l.mapM (fun i => (w.cells? 0 (a.add (i * P.cellsOf e)) (P.cellsOf e)).bind (DataW.trod enc P w 0 spare true k e)) = some el →
                  ∀ s, (∀ (j i : Nat), l[j]? = some i → i = s + j) → (l ≠ [] → a.spot = none) →
                  ∃ xs vs, xs.length = l.length ∧ TypedE P e xs ∧ RepL ρ n (im0 w) vs (flatC xs) ∧ (∀ y, y ∈ xs → y.cells.length = P.cellsOf e) ∧ ∀ q, q < vs.length → w.cell? (a.add (s * P.cellsOf e + q)) = vs[q]? := by
                intro l
                induction l with
                | nil => intro el _ s _ _; exact ⟨[], [], rfl, .nil e, .nil, by simp, by simp⟩
                | cons i l ihl =>
                  intro el hel s hs hsp
                  rw [List.mapM_cons] at hel
                  have hi : i = s := by simpa using hs 0 i rfl
                  subst hi
                  cases hcs : w.cells? 0 (a.add (i * P.cellsOf e)) (P.cellsOf e) with
                  | none => simp [hcs] at hel
                  | some ci =>
                    cases htr : DataW.trod enc P w 0 spare true k e ci with
                    | none => simp [hcs, htr] at hel
                    | some xi =>
                      cases hrest : l.mapM (fun i => (w.cells? 0 (a.add (i * P.cellsOf e)) (P.cellsOf e)).bind (DataW.trod enc P w 0 spare true k e)) with
                      | none => simp [hcs, htr, hrest] at hel
                      | some er =>
                        obtain ⟨ds, hds, hty⟩ := ih e ci xi htr hpe
                        obtain ⟨hcl, hcell⟩ := cells?_spec hcs
                        have hsp' := hsp (by simp)
                        obtain ⟨xs, vs, h1, h2, h3, h4, h5⟩ := ihl er hrest (i + 1) (fun j i' hj => by have := hs (j + 1) i' (by simpa using hj); omega) (fun _ => hsp')
                        have hdl : ds.length = P.cellsOf e := by rw [← hds.length, hcl]
                        have fin : ∀ x : D, x.cells = ds → TypedE P e (x :: xs) → ∃ xs vs, xs.length = (i :: l).length ∧ TypedE P e xs ∧ RepL ρ n (im0 w) vs (flatC xs) ∧ (∀ y, y ∈ xs → y.cells.length = P.cellsOf e) ∧ ∀ q, q < vs.length → w.cell? (a.add (i * P.cellsOf e + q)) = vs[q]? := by
                          intro x hxc hte
                          refine ⟨x :: xs, ci ++ vs, by simp [h1], hte, ?_, ?_, ?_⟩
                          · simp only [flatC, List.flatMap_cons, hxc]; exact hds.append h3
                          · intro y hy
                            rcases List.mem_cons.1 hy with rfl | hy
                            · rw [hxc]; exact hdl
                            · exact h4 y hy
                          · intro q hq
                            rcases Nat.lt_or_ge q ci.length with hlt | hge
                            · rw [List.getElem?_append_left hlt, ← hcell q (by omega), add_add a _ _ hsp']
                            · rw [List.getElem?_append_right hge, ← h5 (q - ci.length) (by simp at hq; omega)]
                              congr 2
                              rw [Nat.add_mul]; omega
                        cases ha : aggT P e with
                        | true => exact fin (.agg ds) rfl (.agg e ds xs ha hty h2)
                        | false =>
                          obtain ⟨d, rfl, hna⟩ := typed_one hty ha
                          exact fin d (by cases d <;> first | rfl | exact (hna _ rfl).elim) (.one e d xs ha hty h2)
              have hspot : List.range len ≠ [] → a.spot = none := by
                intro hne
                have hl0 : 0 < len := by cases len with
                  | zero => simp at hne
                  | succ _ => omega
                obtain ⟨l', hl'⟩ : ∃ l', List.range len = 0 :: l' := ⟨(List.range len).tail, by cases len with
                  | zero => omega
                  | succ m => simp [List.range_succ_eq_map]⟩
                rw [hl', List.mapM_cons] at hm
                cases hcs : w.cells? 0 (a.add (0 * P.cellsOf e)) (P.cellsOf e) with
                | none => simp only [hcs] at hm; simp at hm
                | some ci =>
                  obtain ⟨hcl, hcell⟩ := cells?_spec hcs
                  have h0 := hcell 0 hpos
                  rw [List.getElem?_eq_getElem (by omega)] at h0
                  have e1 : (a.add (0 * P.cellsOf e)).add 0 = a := by simp [Addr.add]
                  rw [e1] at h0
                  unfold World.cell? at h0
                  split at h0
                  · split at h0
                    · cases h0
                    · rename_i hs; simpa using hs
                  · cases h0
              obtain ⟨xs, vs, h1, h2, h3, h4, h5⟩ := key (List.range len) elems hm 0 (fun j i hj => by
                rw [List.getElem?_range] at hj
                · simp at hj; omega
                · rcases Nat.lt_or_ge j len with h | h
                  · exact h
                  · rw [List.getElem?_eq_none (by simpa using h)] at hj; cases hj) hspot
              have hxl : xs.length = len := by simpa using h1
              cases hxs : xs with
              | nil =>
                subst hxs
                simp at hxl; subst hxl
                exact ⟨[.sl false []], .cons _ _ _ _ rfl (.sl0 _ _ _ (by simp)) .nil, .slice t e [] hu (Nat.zero_le _) (.nil e)⟩
              | cons x xr =>
                have hsn := hspot (by rw [hxs] at hxl; simp at hxl; intro h0; have := congrArg List.length h0; simp at this; omega)
                obtain ⟨b, o, sp⟩ := a
                simp at hsn; subst hsn
                refine ⟨[.sl false xs], .cons _ _ _ _ rfl ?_ .nil, .slice t e xs hu (by omega) h2⟩
                rw [← hxl]
                refine .sl b o (P.cellsOf e) cap false xs vs h4 (fun q hq => ?_) h3 (by simp) (by omega)
                have := h5 q hq
                rw [add_plain] at this
                simpa [im0] using this
          · cases h
      case struct fs =>
        simp only [Bool.and_eq_true, beq_iff_eq, List.all_eq_true] at hp
        obtain ⟨hlay, hall⟩ := hp
        have hbody : cs.length = P.cellsOf t ∧ ∃ xs, (fs.toList.mapM fun f => DataW.trod enc P w 0 spare true k f.type ((cs.drop f.offset).take (P.cellsOf f.type))) = some xs := by
          rw [trod_struct_eq hu] at h'
          split at h'
          · rename_i hc
            cases hm : (fs.toList.mapM fun f => DataW.trod enc P w 0 spare true k f.type ((cs.drop f.offset).take (P.cellsOf f.type))) with
            | none => simp [hm] at h'
            | some xs => exact ⟨hc, xs, rfl⟩
          · cases h'
        obtain ⟨hcl, xs, hm⟩ := hbody
        have key : ∀ (l : List Field) (off : Nat) (xs : List (DataW H × List MemPlace)), laysT P off l = some (P.cellsOf t) → (∀ f, f ∈ l → S.contains f.type = true) →
            (l.mapM fun f => DataW.trod enc P w 0 spare true k f.type ((cs.drop f.offset).take (P.cellsOf f.type))) = some xs → ∃ ds, RepL ρ n (im0 w) (cs.drop off) ds ∧ TypedF P (l.map (·.type)) ds := by
          intro l
          induction l with
          | nil =>
            intro off xs hl _ _
            simp [laysT] at hl
            rw [List.drop_eq_nil_of_le (by omega)]
            exact ⟨[], .nil, .nil⟩
          | cons f l ihl =>
            intro off xs hl hpl hml
            simp only [laysT] at hl
            split at hl
            · rename_i hoff
              rw [List.mapM_cons] at hml
              cases htr : DataW.trod enc P w 0 spare true k f.type ((cs.drop f.offset).take (P.cellsOf f.type)) with
              | none => simp [htr] at hml
              | some x0 =>
                cases hrest : (l.mapM fun f => DataW.trod enc P w 0 spare true k f.type ((cs.drop f.offset).take (P.cellsOf f.type))) with
                | none => simp [htr, hrest] at hml
                | some xr =>
                  obtain ⟨ds, h1, h2⟩ := ih f.type _ _ htr (hpl f (by simp))
                  obtain ⟨es, h3, h4⟩ := ihl (off + P.cellsOf f.type) xr hl (fun g hg => hpl g (by simp [hg])) hrest
                  refine ⟨ds ++ es, ?_, .cons _ _ _ _ h2 h4⟩
                  have e1 : cs.drop off = (cs.drop f.offset).take (P.cellsOf f.type) ++ cs.drop (off + P.cellsOf f.type) := by
                    rw [hoff, ← List.drop_drop, List.take_append_drop]
                  rw [e1]
                  exact h1.append h3
            · cases hl
        obtain ⟨ds, h1, h2⟩ := key fs.toList 0 xs hlay hall hm
        exact ⟨ds, by simpa using h1, .struct t fs ds hu h2⟩
      case array m e =>
        simp only [Bool.and_eq_true, beq_iff_eq] at hp
        obtain ⟨hsz, hpe⟩ := hp
        have hbody : cs.length = P.cellsOf t ∧ ∃ xs, ((List.range m).mapM fun i => DataW.trod enc P w 0 spare true k e ((cs.drop (i * P.cellsOf e)).take (P.cellsOf e))) = some xs := by
          rw [trod_array_eq hu] at h'
          split at h'
          · rename_i hc
            cases hm : ((List.range m).mapM fun i => DataW.trod enc P w 0 spare true k e ((cs.drop (i * P.cellsOf e)).take (P.cellsOf e))) with
            | none => simp [hm] at h'
            | some xs => exact ⟨hc, xs, rfl⟩
          · cases h'
        obtain ⟨hcl, xs, hm⟩ := hbody
        have key : ∀ (r s : Nat) (xs : List (DataW H × List MemPlace)), s + r = m →
            ((List.range' s r).mapM fun i => DataW.trod enc P w 0 spare true k e ((cs.drop (i * P.cellsOf e)).take (P.cellsOf e))) = some xs → ∃ ds, RepL ρ n (im0 w) (cs.drop (s * P.cellsOf e)) ds ∧ TypedF P (List.replicate r e) ds := by
          intro r
          induction r with
          | zero =>
            intro s xs hs _
            rw [List.drop_eq_nil_of_le (by rw [hcl, hsz]; have : s = m := by omega
                                           subst this; exact Nat.le_refl _)]
            exact ⟨[], .nil, .nil⟩
          | succ r ihr =>
            intro s xs hs hml
            rw [List.range'_succ, List.mapM_cons] at hml
            cases htr : DataW.trod enc P w 0 spare true k e ((cs.drop (s * P.cellsOf e)).take (P.cellsOf e)) with
            | none => simp [htr] at hml
            | some x0 =>
              cases hrest : ((List.range' (s + 1) r).mapM fun i => DataW.trod enc P w 0 spare true k e ((cs.drop (i * P.cellsOf e)).take (P.cellsOf e))) with
              | none => simp [htr, hrest] at hml
              | some xr =>
                obtain ⟨ds, h1, h2⟩ := ih e _ _ htr hpe
                obtain ⟨es, h3, h4⟩ := ihr (s + 1) xr (by omega) hrest
                refine ⟨ds ++ es, ?_, .cons _ _ _ _ h2 h4⟩
                have e1 : cs.drop (s * P.cellsOf e) = (cs.drop (s * P.cellsOf e)).take (P.cellsOf e) ++ cs.drop ((s + 1) * P.cellsOf e) := by
                  rw [Nat.add_mul, Nat.one_mul, ← List.drop_drop, List.take_append_drop]
                rw [e1]
                exact h1.append h3
        rw [List.range_eq_range'] at hm
        obtain ⟨ds, h1, h2⟩ := key m 0 xs (by omega) hm
        exact ⟨ds, by simpa using h1, .array t e m ds hu h2⟩
end
end Vm
end
/- A statement out of what the interpreter comes to. -/
section
set_option linter.unusedVariables false
set_option linter.unusedSimpArgs false
namespace Vm
open Go Go.RowKit

section
variable {H : Type} {enc : TypeId × Value → H} {P : Program} {w : World}
theorem value_typed {S : List TypeId} (hS : plainS P S = true) {t : TypeId} {v : Value} {d : DataW H} {ps : List MemPlace} {ρ : Rho} {n : Nat} (h : DataW.Trod enc P w 0 (fun _ => true) true t v d ps) (hp : S.contains t = true) {base : Nat} (hv : Value.okWide P w .any base t v) :
    ∃ x, Rep ρ n (im0 w) v x ∧ ((aggT P t = true ∧ ∃ cs, x = .agg cs ∧ Typed P t cs) ∨ (aggT P t = false ∧ Typed P t [x])) := by
  obtain ⟨fuel, hf⟩ := h
  obtain ⟨ds, hds, hty⟩ := trod_typed (ρ := ρ) (n := n) hS fuel t _ _ hf hp
  cases ha : aggT P t with
  | true =>
    have : ∃ cs, v = .agg cs := by
      unfold Value.okWide at hv
      unfold aggT isAggT at ha
      cases hu : P.underlying t with
      | none => simp [hu] at ha
      | some td =>
        cases td <;> simp [hu] at ha
        all_goals (simp only [hu] at hv; obtain ⟨cs, rfl, _⟩ := hv; exact ⟨cs, rfl⟩)
    obtain ⟨⟨cs⟩, rfl⟩ := this
    exact ⟨.agg ds, .agg cs ds (by simpa [Value.cells] using hds), .inl ⟨rfl, ds, rfl, hty⟩⟩
  | false =>
    obtain ⟨x, rfl, hna⟩ := typed_one hty ha
    have hcell : v.cells.toList = [v] := by
      have : ∀ cs, v ≠ .agg cs := by
        rintro cs rfl
        have hp1 := plain1_of hS hp
        unfold plain1 at hp1
        unfold Value.okWide at hv
        cases hu : P.underlying t with
        | none => simp [hu] at hp1
        | some td =>
          cases td <;> simp [hu] at hp1 <;> simp only [hu] at hv <;> first
            | (simp [Cell.okWide, Cell.ok, hu] at hv; done)
            | (simp [aggT, isAggT, hu] at ha; done)
      cases v <;> first | rfl | exact (this _ rfl).elim
    rw [hcell] at hds
    cases hds with
    | cons _ _ _ _ _ hr _ => exact ⟨x, hr, .inr ⟨rfl, hty⟩⟩
theorem args_typed {S : List TypeId} (hS : plainS P S = true) {ρ : Rho} {n : Nat} : ∀ {ts : List TypeId} {vs : List Value} {ds : List (DataW H)} {ps : List MemPlace}, DataW.TrodAll enc P w 0 (fun _ => true) true ts vs ds ps →
    (∀ t ∈ ts, S.contains t = true) → (∀ (j : Nat) t v, ts[j]? = some t → vs[j]? = some v → ∃ base, Value.okWide P w .any base t v) → ∃ Ds, RepA ρ n (im0 w) vs Ds ∧ TypedA P ts Ds
  | [], [], [], ps, h, _, _ => ⟨[], .nil, .nil⟩
  | t :: ts, v :: vs, d :: ds, ps, h, hp, hv => by
    obtain ⟨p, q, h1, h2, _⟩ := h
    obtain ⟨base, hv0⟩ := hv 0 t v rfl rfl
    obtain ⟨x, hx, hc⟩ := value_typed hS (ρ := ρ) (n := n) h1 (hp t (by simp)) hv0
    obtain ⟨Ds, g1, g2⟩ := args_typed hS (ρ := ρ) (n := n) h2 (fun t ht => hp t (by simp [ht])) (fun j t v a b => hv (j + 1) t v (by simpa using a) (by simpa using b))
    refine ⟨x :: Ds, .cons _ _ _ _ hx g1, ?_⟩
    rcases hc with ⟨ha, cs, rfl, hty⟩ | ⟨ha, hty⟩
    · exact .agg t ts cs Ds ha hty g2
    · exact .one t ts x Ds ha hty g2
  | [], _ :: _, _, _, h, _, _ => by simp [DataW.TrodAll] at h
  | [], [], _ :: _, _, h, _, _ => by simp [DataW.TrodAll] at h
  | _ :: _, [], _, _, h, _, _ => by simp [DataW.TrodAll] at h
  | _ :: _, _ :: _, [], _, h, _, _ => by simp [DataW.TrodAll] at h
theorem trodAll_stays {W W' : World} (hl : laidOutB P = true) (hb : Below W.heap.size W W') : ∀ {ts : List TypeId} {vs : List Value} {ds : List (DataW H)} {ps : List MemPlace}, DataW.TrodAll enc P W 0 (fun _ => true) true ts vs ds ps →
    (∀ t ∈ ts, P.readableRec t = true ∧ t < P.types.size) → (∀ x ∈ ps, x.block < W.heap.size) → DataW.TrodAll enc P W' 0 (fun b => decide (b < W.heap.size)) true ts vs ds ps
  | [], [], [], ps, h, _, _ => h
  | t :: ts, v :: vs, d :: ds, ps, h, ht, hlt => by
    obtain ⟨p, q, h1, h2, rfl⟩ := h
    exact ⟨p, q, Below.trod hl (ht t (by simp)).1 (ht t (by simp)).2 h1 hb (fun x hx => hlt x (by simp [hx])), trodAll_stays hl hb h2 (fun t h => ht t (by simp [h])) (fun x hx => hlt x (by simp [hx])), rfl⟩
  | [], _ :: _, _, _, h, _, _ => by simp [DataW.TrodAll] at h
  | [], [], _ :: _, _, h, _, _ => by simp [DataW.TrodAll] at h
  | _ :: _, [], _, _, h, _, _ => by simp [DataW.TrodAll] at h
  | _ :: _, _ :: _, [], _, h, _, _ => by simp [DataW.TrodAll] at h
theorem Tr.below {ρ ρ' : Rho} {H' : Heap} {W W' : World} (h : Tr ρ [] W ρ' H' W') : Below W.heap.size W W' :=
  ⟨h.os, h.tape, h.output, h.size, fun k hk => h.keep k hk (fun r hr => by simp at hr)⟩
end

/-- the contract that a statement's row asks -/
theorem law_contract {C : Checked} {f : FuncId} {fn : Func} {s : ChangeSpec} {H : Type} {enc : TypeId × Value → H} {A : Ann} {S : List TypeId} {tb : TypeId} (hvars : s.vars = []) (hl : laidOutB C.prog = true)
    (hts : ∀ t ∈ fn.params.toList, C.prog.readableRec t = true ∧ t < C.prog.types.size) (hS : plainS C.prog S = true) (hpl : (fn.params.toList.all fun t => S.contains t) = true)
    (hbod : bodied C.prog f = true) (hres : fn.resultTypes = #[tb]) (htb : C.prog.underlying tb = some .bool)
    (hs : ∀ ds : List (DataW H), ds.length = fn.params.size → (s.fn H ds).results = [.lit (.bool true)] ∧ (s.fn H ds).args = ds ∧ (s.fn H ds).vars = [])
    (hrun : ∀ Ds, TypedA C.prog fn.params.toList Ds → ∃ k H', runF C.prog A k f Ds [] = some (.ok (.bool true) H')) :
    ∀ (W : World) (base : Nat) (args : Array Value) (ds gs : List (DataW H)) (before : List MemPlace),
      (∀ (j : Nat) t v, fn.params[j]? = some t → args[j]? = some v → Value.okWide C.prog W .any base t v) →
      DataW.Whole enc C.prog fn.params.toList s.vars false W args.toList ds gs before → @PrimOk ⟨im0 W⟩ C.prog A →
      Calls C.prog f args W fun e W' => ∃ v, e = .returned v ∧ s.post enc C.prog fn false true false false W args v W' := by
  intro W base args ds gs before hval hW hA
  letI : Base := ⟨im0 W⟩
  have hW' := hW
  obtain ⟨p, q, hAll, hV, hps, hfz, hnd⟩ := hW
  rw [hvars] at hV
  have hgq : gs = [] ∧ q = [] := by
    cases gs with
    | nil => exact ⟨rfl, by simpa [DataW.TrodVars] using hV⟩
    | cons g gs => simp [DataW.TrodVars] at hV
  obtain ⟨rfl, rfl⟩ := hgq
  obtain ⟨Ds, hrep, hty⟩ := args_typed hS (ρ := fun _ => default) (n := 0) hAll (fun t ht => List.all_eq_true.1 hpl t ht) (fun j t v a b => ⟨base, hval j t v (by simpa using a) (by simpa using b)⟩)
  obtain ⟨k, H', hk⟩ := hrun Ds hty
  have hc := (runF_ok C.mixed hA k f Ds [] _ hk (fun _ => default) (im0 W) W args.toList (rel0 W _ fun _ _ _ h => h) hrep).calls hbod
  refine hc.mono fun e W' hout => ?_
  cases hout with
  | ok ρ' im' _ _ v _ hm hv =>
    have hvb := hv.bool_inv
    subst hvb
    have hb : Below W.heap.size W W' := hm.tr.below
    have hlen : ds.length = fn.params.size := by
      have : ∀ {ts : List TypeId} {vs : List Value} {ds : List (DataW H)} {ps : List MemPlace}, DataW.TrodAll enc C.prog W 0 (fun _ => true) true ts vs ds ps → ds.length = ts.length := by
        intro ts
        induction ts with
        | nil => intro vs ds ps h; cases vs <;> cases ds <;> simp [DataW.TrodAll] at h ⊢
        | cons t ts ih =>
          intro vs ds ps h
          cases vs <;> cases ds <;> simp [DataW.TrodAll] at h ⊢
          obtain ⟨p, _, q, h2, _⟩ := h
          exact ih h2
      simpa using this hAll
    obtain ⟨h1, h2, h3⟩ := hs ds hlen
    refine ⟨_, rfl, ds, [], before, [], p, [], hW', ?_, ?_, ?_, ?_, fun h => by cases h⟩
    · rw [List.append_nil, h1, hres]
      refine ⟨[], [], ⟨1, ?_⟩, rfl, rfl⟩
      simp [DataW.trod, htb, Value.cells, Value.resultList]
    · rw [List.append_nil, h2]
      refine trodAll_stays hl hb hAll hts fun x hx => ?_
      have := hW'.lt x (by rw [hps]; simp [hx])
      simpa using this
    · rw [List.append_nil, h3, hvars]; rfl
    · exact hb.frame _
end Vm
end
/- What typed data are, kind by kind. -/
section
set_option linter.unusedVariables false
namespace Vm
open Go
section
variable {P : Program}
theorem typed_int {t : TypeId} {k : IntKind} {ds : List D} (hu : P.underlying t = some (.int k)) (h : Typed P t ds) : ∃ n, ds = [.int k n] ∧ (Lit.int k n).wf = true := by
  cases h with
  | bool _ b h => rw [hu] at h; cases h
  | int _ k1 n h hn => rw [hu] at h; cases h; exact ⟨n, rfl, hn⟩
  | str _ s h hs => rw [hu] at h; cases h
  | slice _ e xs h hl hx => rw [hu] at h; cases h
  | struct _ fs ds h hf => rw [hu] at h; cases h
  | array _ e n ds h hf => rw [hu] at h; cases h
theorem typed_slice {t e : TypeId} {ds : List D} (hu : P.underlying t = some (.slice e)) (h : Typed P t ds) : ∃ xs, ds = [.sl false xs] ∧ xs.length ≤ maxLen ∧ TypedE P e xs := by
  cases h with
  | bool _ b h => rw [hu] at h; cases h
  | int _ k1 n h hn => rw [hu] at h; cases h
  | str _ s h hs => rw [hu] at h; cases h
  | slice _ e xs h hl hx => rw [hu] at h; cases h; exact ⟨xs, rfl, hl, hx⟩
  | struct _ fs ds h hf => rw [hu] at h; cases h
  | array _ e n ds h hf => rw [hu] at h; cases h
theorem typed_struct {t : TypeId} {fs : Array Field} {ds : List D} (hu : P.underlying t = some (.struct fs)) (h : Typed P t ds) : TypedF P (fs.toList.map (·.type)) ds := by
  cases h with
  | bool _ b h => rw [hu] at h; cases h
  | int _ k1 n h hn => rw [hu] at h; cases h
  | str _ s h hs => rw [hu] at h; cases h
  | slice _ e xs h hl hx => rw [hu] at h; cases h
  | struct _ fs ds h hf => rw [hu] at h; cases h; exact hf
  | array _ e n ds h hf => rw [hu] at h; cases h
def fieldTs (P : Program) (t : TypeId) : Option (List TypeId) :=
  match P.underlying t with
  | some (.struct fs) => some (fs.toList.map (·.type))
  | _ => none
theorem typed_fields {t : TypeId} {ts : List TypeId} {ds : List D} (hu : fieldTs P t = some ts) (h : Typed P t ds) : TypedF P ts ds := by
  unfold fieldTs at hu
  split at hu
  · rename_i fs hs
    cases hu
    exact typed_struct hs h
  · cases hu
theorem typedF_nil {ds : List D} (h : TypedF P [] ds) : ds = [] := by cases h; rfl
theorem typedA_one {t : TypeId} {ts : List TypeId} {ds : List D} (ha : aggT P t = false) (h : TypedA P (t :: ts) ds) : ∃ d r, ds = d :: r ∧ Typed P t [d] ∧ TypedA P ts r := by
  cases h with
  | agg _ _ cs _ ha' h hr => rw [ha] at ha'; cases ha'
  | one _ _ d ds ha' h hr => exact ⟨d, ds, rfl, h, hr⟩
theorem typedA_nil {ds : List D} (h : TypedA P [] ds) : ds = [] := by cases h; rfl
end
end Vm
end
/- Runs that are closed; functions that say yes. -/
section
set_option maxHeartbeats 4000000
set_option linter.unusedVariables false
set_option linter.unusedSimpArgs false
namespace Go.Proofs.W
open Go Vm Go.Proofs.Zs7z

theorem okTrue_run {f : FuncId} {k : Nat} (h : okTrue (runF Tryz.prog A k f [] []) = true) : PureF Tryz.prog A f [] (.bool true) := by
  cases hr : runF Tryz.prog A k f [] [] with
  | none => rw [hr] at h; cases h
  | some r =>
    rw [hr] at h
    refine ⟨k, r, hr, ?_⟩
    cases r with
    | pan d H => cases h
    | ok d H =>
      cases d <;> simp only [okTrue] at h <;> try (cases h; done)
      subst h; rfl
abbrev Yes (f : FuncId) (args : List D) : Prop := EvF Tryz.prog A f args [] (fun d _ => d = .bool true) (fun _ _ => False)
theorem run_of_yes {f : FuncId} {args : List D} (h : Yes f args) : ∃ k H', runF Tryz.prog A k f args [] = some (.ok (.bool true) H') := by
  obtain ⟨k, r, h1, h2⟩ := h
  cases r with
  | pan d H => exact h2.elim
  | ok d H => exact ⟨k, H, by rw [h1, show d = .bool true from h2]⟩

end Go.Proofs.W
end
/- Plain arguments. -/
section
set_option maxHeartbeats 4000000
set_option linter.unusedVariables false
set_option linter.unusedSimpArgs false
-- use:
namespace Go.Proofs.W
open Go Vm Go.Proofs.Zs7z
theorem strip1 {a : D} (h : strip a = some a) : stripL [a] = some [a] := by simp [stripL, h]
theorem strip2 {a b : D} (h : strip a = some a) (k : strip b = some b) : stripL [a, b] = some [a, b] := by simp [stripL, h, k]
end Go.Proofs.W
end
/- Expressions: what they are as data; the document's limits. -/
section
set_option maxHeartbeats 4000000
set_option linter.unusedVariables false
set_option linter.unusedSimpArgs false
namespace Go.Proofs.W
open Go Vm Go.Proofs.Zs7z

/-- an expression: its kind, its set, its kids -/
inductive Rx where
  | mk (k s : Int) (kids : List Rx)
  deriving Inhabited
def Rx.k : Rx → Int | .mk k _ _ => k
def Rx.s : Rx → Int | .mk _ s _ => s
def Rx.kids : Rx → List Rx | .mk _ _ l => l
mutual
def rxD : Rx → D
  | .mk k s l => .agg [.int .u8 k, .int .u16 s, .sl false (rxDs l)]
def rxDs : List Rx → List D
  | [] => []
  | r :: l => rxD r :: rxDs l
end
theorem rxDs_map (l : List Rx) : rxDs l = l.map rxD := by
  induction l with
  | nil => rfl
  | cons r l ih => simp [rxDs, ih]
mutual
theorem strip_rx : ∀ r : Rx, strip (rxD r) = some (rxD r)
  | .mk k s l => by simp [rxD, strip, stripL, strip_rxs l]
theorem strip_rxs : ∀ l : List Rx, stripL (rxDs l) = some (rxDs l)
  | [] => rfl
  | r :: l => by simp [rxDs, stripL, strip_rx r, strip_rxs l]
end
theorem rx_cells (r : Rx) : (rxD r).cells.length = 3 := by cases r; rfl
theorem rx_aggQ (r : Rx) : aggQ (rxD r) = true := by cases r; rfl
theorem rx_noTup (r : Rx) : noTup (rxD r) = true := by cases r; rfl
theorem rxDs_len (l : List Rx) : (rxDs l).length = l.length := by rw [rxDs_map]; simp
theorem rxDs_at (l : List Rx) (i : Nat) : (rxDs l)[i]? = (l[i]?).map rxD := by rw [rxDs_map]; simp
theorem rx_mk (k s : Int) (l : List Rx) : rxD (.mk k s l) = .agg [.int .u8 k, .int .u16 s, .sl false (rxDs l)] := rfl
attribute [go_sem] rx_cells rx_aggQ rx_noTup rxDs_len rxDs_at rx_mk
theorem strip_int {k : IntKind} {n : Int} : strip (.int k n) = some (.int k n) := rfl

mutual
/-- what numbers and lists may be -/
def okR : Rx → Prop
  | .mk k s l => 0 ≤ k ∧ k < 256 ∧ 0 ≤ s ∧ s < 65536 ∧ l.length ≤ 140737488355328 ∧ okL l
def okL : List Rx → Prop
  | [] => True
  | r :: l => okR r ∧ okL l
end
theorem okL_get : ∀ {l : List Rx}, okL l → ∀ r ∈ l, okR r
  | [], _, r, h => by cases h
  | x :: l, ⟨h1, h2⟩, r, h => by
    rcases List.mem_cons.1 h with rfl | h
    · exact h1
    · exact okL_get h2 r h
/-! ### Great -/
def greatR : Nat → Rx → Bool
  | m, .mk _ _ l => decide (l.length > 120) || (match m with | 0 => true | m + 1 => l.any fun r => greatR m r)
theorem great_ok : ∀ (m : Nat) (hm : m ≤ 1000) (r : Rx), PureF Tryz.prog A 14 [rxD r, .int .i64 m] (.bool (greatR m r)) := by
  intro m
  induction m with
  | zero =>
    rintro hm ⟨k, s, l⟩
    refine evF_inB (n := 29) (rs := [.tmp 4]) Tryz.func14 rfl rfl rfl rfl rfl rfl ?_
    by_cases hl : l.length ≤ 120
    · repeat' (first | refine wz1 ?_ | refine wz2 ?_ | refine wz3 ?_ | refine wz4 ?_ | refine wz5 ?_ | refine wz6 ?_ | simp -dsimp (maxSteps:=999999) (disch:=omega) only[go_sem,simprocAttr, *])
      refine wz7 (fun hb => ?_) (fun hb => ?_) <;> try simp -dsimp (maxSteps:=999999) (disch:=omega) only[go_sem,simprocAttr,decide_eq_true_eq,decide_eq_false_iff_not,Bool.not_eq_true,Bool.not_eq_false,Int.not_lt,Int.not_le] at hb
      repeat' (first | refine wz1 ?_ | refine wz2 ?_ | refine wz3 ?_ | refine wz4 ?_ | refine wz5 ?_ | refine wz6 ?_ | simp -dsimp (maxSteps:=999999) (disch:=omega) only[go_sem,simprocAttr, *])
      simp [greatR]
    · repeat' (first | refine wz1 ?_ | refine wz2 ?_ | refine wz3 ?_ | refine wz4 ?_ | refine wz5 ?_ | refine wz6 ?_ | simp -dsimp (maxSteps:=999999) (disch:=omega) only[go_sem,simprocAttr, *])
      refine wz7 (fun hb => ?_) (fun hb => ?_) <;> try simp -dsimp (maxSteps:=999999) (disch:=omega) only[go_sem,simprocAttr,decide_eq_true_eq,decide_eq_false_iff_not,Bool.not_eq_true,Bool.not_eq_false,Int.not_lt,Int.not_le] at hb
      repeat' (first | refine wz1 ?_ | refine wz2 ?_ | refine wz3 ?_ | refine wz4 ?_ | refine wz5 ?_ | refine wz6 ?_ | simp -dsimp (maxSteps:=999999) (disch:=omega) only[go_sem,simprocAttr, *])
      simp [greatR]
  | succ m ih =>
    rintro hm ⟨k, s, l⟩
    refine evF_inB (n := 29) (rs := [.tmp 4]) Tryz.func14 rfl rfl rfl rfl rfl rfl ?_
    by_cases hl : l.length ≤ 120
    · repeat' (first | refine wz1 ?_ | refine wz2 ?_ | refine wz3 ?_ | refine wz4 ?_ | refine wz5 ?_ | refine wz6 ?_ | simp -dsimp (maxSteps:=999999) (disch:=omega) only[go_sem,simprocAttr, *])
      refine wz7 (fun hb => ?_) (fun hb => ?_) <;> try simp -dsimp (maxSteps:=999999) (disch:=omega) only[go_sem,simprocAttr,decide_eq_true_eq,decide_eq_false_iff_not,Bool.not_eq_true,Bool.not_eq_false,Int.not_lt,Int.not_le] at hb
      repeat' (first | refine wz1 ?_ | refine wz2 ?_ | refine wz3 ?_ | refine wz4 ?_ | refine wz5 ?_ | refine wz6 ?_ | simp -dsimp (maxSteps:=999999) (disch:=omega) only[go_sem,simprocAttr, *])
      have hgr : greatR (m + 1) (.mk k s l) = l.any fun r => greatR m r := by simp only [greatR, show ¬ l.length > 120 by omega, decide_false, Bool.false_or]
      rw [hgr]
      refine wpB_loop (fun e H => ∃ j : Nat, j ≤ l.length ∧ e 1 = .int .i64 ((m : Int) + 1) ∧ e 2 = .ptr 0 0 0 ∧ e 5 = .int .i64 j ∧ hget H 0 = .arr [rxD (.mk k s l)] ∧ (l.any fun r => greatR m r) = ((l.drop j).any fun r => greatR m r)) (fun e H => l.length - natOf (e 5)) ?_ ?_
      · exact ⟨0, Nat.zero_le _, gs, rfl, rfl, rfl, by simp⟩
      · clear hgr hb
        rintro e H ⟨j, hj, e1, e2, e5, h0, ha⟩ R hR
        repeat' (first | refine wz1 ?_ | refine wz2 ?_ | refine wz3 ?_ | refine wz4 ?_ | refine wz5 ?_ | refine wz6 ?_ | simp -dsimp (maxSteps:=999999) (disch:=omega) only[go_sem,simprocAttr, *])
        refine wz7 (fun hb => ?_) (fun hb => ?_) <;> try simp -dsimp (maxSteps:=999999) (disch:=omega) only[go_sem,simprocAttr,decide_eq_true_eq,decide_eq_false_iff_not,Bool.not_eq_true,Bool.not_eq_false,Int.not_lt,Int.not_le] at hb
        · rw [List.drop_eq_getElem_cons hb, List.any_cons] at ha
          repeat' (first | refine wz1 ?_ | refine wz2 ?_ | refine wz3 ?_ | refine wz4 ?_ | refine wz5 ?_ | refine wz6 ?_ | simp -dsimp (maxSteps:=999999) (disch:=omega) only[go_sem,simprocAttr, *])
          refine evB_plain bo14 rfl rfl (strip2 (strip_rx _) strip_int) (by simpa using ih (by omega) l[j]) ?_
          simp -dsimp (maxSteps:=999999) (disch:=omega) only[go_sem,simprocAttr, *]
          refine wz7 (fun hb2 => ?_) (fun hb2 => ?_) <;> try simp -dsimp (maxSteps:=999999) (disch:=omega) only[go_sem,simprocAttr,decide_eq_true_eq,decide_eq_false_iff_not,Bool.not_eq_true,Bool.not_eq_false,Int.not_lt,Int.not_le] at hb2
          · repeat' (first | refine wz1 ?_ | refine wz2 ?_ | refine wz3 ?_ | refine wz4 ?_ | refine wz5 ?_ | refine wz6 ?_ | simp -dsimp (maxSteps:=999999) (disch:=omega) only[go_sem,simprocAttr, *])
          · repeat' (first | refine wz1 ?_ | refine wz2 ?_ | refine wz3 ?_ | refine wz4 ?_ | refine wz5 ?_ | refine wz6 ?_ | simp -dsimp (maxSteps:=999999) (disch:=omega) only[go_sem,simprocAttr, *])
            refine hR _ _ ⟨j + 1, by omega, e1, e2, rfl, gs, by simpa [hb2] using ha⟩ ?_
            simp -dsimp (maxSteps:=999999) (disch:=omega) only[go_sem,simprocAttr, *,natOf_int]
        · repeat' (first | refine wz1 ?_ | refine wz2 ?_ | refine wz3 ?_ | refine wz4 ?_ | refine wz5 ?_ | refine wz6 ?_ | simp -dsimp (maxSteps:=999999) (disch:=omega) only[go_sem,simprocAttr, *])
          rw [List.drop_eq_nil_of_le (by omega)]; rfl
    · repeat' (first | refine wz1 ?_ | refine wz2 ?_ | refine wz3 ?_ | refine wz4 ?_ | refine wz5 ?_ | refine wz6 ?_ | simp -dsimp (maxSteps:=999999) (disch:=omega) only[go_sem,simprocAttr, *])
      refine wz7 (fun hb => ?_) (fun hb => ?_) <;> try simp -dsimp (maxSteps:=999999) (disch:=omega) only[go_sem,simprocAttr,decide_eq_true_eq,decide_eq_false_iff_not,Bool.not_eq_true,Bool.not_eq_false,Int.not_lt,Int.not_le] at hb
      repeat' (first | refine wz1 ?_ | refine wz2 ?_ | refine wz3 ?_ | refine wz4 ?_ | refine wz5 ?_ | refine wz6 ?_ | simp -dsimp (maxSteps:=999999) (disch:=omega) only[go_sem,simprocAttr, *])
      simp [greatR]; omega

/-! ### Deep -/
def deepR : Nat → Rx → Nat
  | 0, _ => 1
  | m + 1, .mk _ _ l => (l.map (deepR m)).foldl max 0 + 1
theorem foldl_max (l : List Nat) : ∀ a, l.foldl max a = max a (l.foldl max 0) := by
  induction l with
  | nil => intro a; simp
  | cons x l ih => intro a; simp only [List.foldl_cons]; rw [ih (max a x), ih (max 0 x)]; omega
theorem deep_le : ∀ (m : Nat) (r : Rx), deepR m r ≤ m + 1
  | 0, _ => Nat.le_refl _
  | m + 1, .mk k s l => by
    simp only [deepR]
    have : ∀ l : List Rx, (l.map (deepR m)).foldl max 0 ≤ m + 1 := by
      intro l
      induction l with
      | nil => simp
      | cons r l ih => simp only [List.map_cons, List.foldl_cons]; rw [foldl_max]; have := deep_le m r; omega
    have := this l
    omega
theorem deep_ok : ∀ (m : Nat) (hm : m ≤ 1000) (r : Rx) (hr : okR r), PureF Tryz.prog A 32 [rxD r, .int .i64 m] (.int .i64 (deepR m r)) := by
  intro m
  induction m with
  | zero =>
    rintro hm ⟨k, s, l⟩ ⟨_, _, _, _, hlen, hok⟩
    refine evF_inB (n := 31) (rs := [.tmp 4]) Tryz.func32 rfl rfl rfl rfl rfl rfl ?_
    repeat' (first | refine wz1 ?_ | refine wz2 ?_ | refine wz3 ?_ | refine wz4 ?_ | refine wz5 ?_ | refine wz6 ?_ | simp -dsimp (maxSteps:=999999) (disch:=omega) only[go_sem,simprocAttr, *])
    refine wz7 (fun hb => ?_) (fun hb => ?_) <;> try simp -dsimp (maxSteps:=999999) (disch:=omega) only[go_sem,simprocAttr,decide_eq_true_eq,decide_eq_false_iff_not,Bool.not_eq_true,Bool.not_eq_false,Int.not_lt,Int.not_le] at hb
    repeat' (first | refine wz1 ?_ | refine wz2 ?_ | refine wz3 ?_ | refine wz4 ?_ | refine wz5 ?_ | refine wz6 ?_ | simp -dsimp (maxSteps:=999999) (disch:=omega) only[go_sem,simprocAttr, *])
    rfl
  | succ m ih =>
    rintro hm ⟨k, s, l⟩ ⟨_, _, _, _, hlen, hok⟩
    refine evF_inB (n := 31) (rs := [.tmp 4]) Tryz.func32 rfl rfl rfl rfl rfl rfl ?_
    repeat' (first | refine wz1 ?_ | refine wz2 ?_ | refine wz3 ?_ | refine wz4 ?_ | refine wz5 ?_ | refine wz6 ?_ | simp -dsimp (maxSteps:=999999) (disch:=omega) only[go_sem,simprocAttr, *])
    refine wz7 (fun hb => ?_) (fun hb => ?_) <;> try simp -dsimp (maxSteps:=999999) (disch:=omega) only[go_sem,simprocAttr,decide_eq_true_eq,decide_eq_false_iff_not,Bool.not_eq_true,Bool.not_eq_false,Int.not_lt,Int.not_le] at hb
    repeat' (first | refine wz1 ?_ | refine wz2 ?_ | refine wz3 ?_ | refine wz4 ?_ | refine wz5 ?_ | refine wz6 ?_ | simp -dsimp (maxSteps:=999999) (disch:=omega) only[go_sem,simprocAttr, *])
    refine wpB_loop (fun e H => ∃ j : Nat, j ≤ l.length ∧ e 1 = .int .i64 ((m : Int) + 1) ∧ e 2 = .ptr 0 0 0 ∧ e 6 = .int .i64 j ∧ hget H 0 = .arr [rxD (.mk k s l)] ∧ ∃ n : Nat, e 5 = .int .i64 n ∧ n ≤ m + 1 ∧ (l.map (deepR m)).foldl max 0 = ((l.drop j).map (deepR m)).foldl max n) (fun e H => l.length - natOf (e 6)) ?_ ?_
    · exact ⟨0, Nat.zero_le _, gs, rfl, rfl, rfl, 0, rfl, by omega, by simp⟩
    · rintro e H ⟨j, hj, e1, e2, e6, h0, n, e5, hn, ha⟩ R hR
      repeat' (first | refine wz1 ?_ | refine wz2 ?_ | refine wz3 ?_ | refine wz4 ?_ | refine wz5 ?_ | refine wz6 ?_ | simp -dsimp (maxSteps:=999999) (disch:=omega) only[go_sem,simprocAttr, *])
      refine wz7 (fun hb2 => ?_) (fun hb2 => ?_) <;> try simp -dsimp (maxSteps:=999999) (disch:=omega) only[go_sem,simprocAttr,decide_eq_true_eq,decide_eq_false_iff_not,Bool.not_eq_true,Bool.not_eq_false,Int.not_lt,Int.not_le] at hb2
      · rw [List.drop_eq_getElem_cons hb2, List.map_cons, List.foldl_cons] at ha
        have hle := deep_le m l[j]
        repeat' (first | refine wz1 ?_ | refine wz2 ?_ | refine wz3 ?_ | refine wz4 ?_ | refine wz5 ?_ | refine wz6 ?_ | simp -dsimp (maxSteps:=999999) (disch:=omega) only[go_sem,simprocAttr, *])
        refine evB_plain bo32 rfl rfl (strip2 (strip_rx _) strip_int) (by simpa using ih (by omega) l[j] (okL_get hok _ (List.getElem_mem _))) ?_
        simp -dsimp (maxSteps:=999999) (disch:=omega) only[go_sem,simprocAttr, *]
        repeat' (first | refine wz1 ?_ | refine wz2 ?_ | refine wz3 ?_ | refine wz4 ?_ | refine wz5 ?_ | refine wz6 ?_ | simp -dsimp (maxSteps:=999999) (disch:=omega) only[go_sem,simprocAttr, *])
        refine wz7 (fun hb3 => ?_) (fun hb3 => ?_) <;> try simp -dsimp (maxSteps:=999999) (disch:=omega) only[go_sem,simprocAttr,decide_eq_true_eq,decide_eq_false_iff_not,Bool.not_eq_true,Bool.not_eq_false,Int.not_lt,Int.not_le] at hb3
        · repeat' (first | refine wz1 ?_ | refine wz2 ?_ | refine wz3 ?_ | refine wz4 ?_ | refine wz5 ?_ | refine wz6 ?_ | simp -dsimp (maxSteps:=999999) (disch:=omega) only[go_sem,simprocAttr, *])
          refine hR _ _ ⟨j + 1, by omega, e1, e2, rfl, gs, deepR m l[j], rfl, hle, ?_⟩ ?_
          · rw [show max n (deepR m l[j]) = deepR m l[j] by omega] at ha
            exact ha
          · simp -dsimp (maxSteps:=999999) (disch:=omega) only[go_sem,simprocAttr, *,natOf_int]
        · repeat' (first | refine wz1 ?_ | refine wz2 ?_ | refine wz3 ?_ | refine wz4 ?_ | refine wz5 ?_ | refine wz6 ?_ | simp -dsimp (maxSteps:=999999) (disch:=omega) only[go_sem,simprocAttr, *])
          refine hR _ _ ⟨j + 1, by omega, e1, e2, rfl, gs, n, e5, hn, ?_⟩ ?_
          · rw [show max n (deepR m l[j]) = n by omega] at ha
            exact ha
          · simp -dsimp (maxSteps:=999999) (disch:=omega) only[go_sem,simprocAttr, *,natOf_int]
      · rw [List.drop_eq_nil_of_le (by omega)] at ha
        simp only [List.map_nil, List.foldl_nil] at ha
        repeat' (first | refine wz1 ?_ | refine wz2 ?_ | refine wz3 ?_ | refine wz4 ?_ | refine wz5 ?_ | refine wz6 ?_ | simp -dsimp (maxSteps:=999999) (disch:=omega) only[go_sem,simprocAttr, *])
        simp [deepR, ha]
end Go.Proofs.W
end
/- Expressions: how many nodes; what shapes; whether they may be. -/
section
set_option maxHeartbeats 4000000
set_option linter.unusedVariables false
set_option linter.unusedSimpArgs false
namespace Go.Proofs.W
open Go Vm Go.Proofs.Zs7z

mutual
def depth : Rx → Nat
  | .mk _ _ l => depthL l + 1
def depthL : List Rx → Nat
  | [] => 0
  | r :: l => max (depth r) (depthL l)
end
theorem deep_depth : ∀ (m : Nat) (r : Rx), deepR m r = min (depth r) (m + 1)
  | 0, .mk k s l => by simp only [deepR, depth]; omega
  | m + 1, .mk k s l => by
    simp only [deepR, depth]
    have : ∀ l : List Rx, (l.map (deepR m)).foldl max 0 = min (depthL l) (m + 1) := by
      intro l
      induction l with
      | nil => simp [depthL]
      | cons r l ih =>
        simp only [List.map_cons, List.foldl_cons, depthL]
        rw [foldl_max, ih, deep_depth m r]; omega
    rw [this]; omega

/-! ### Nodes -/
mutual
def nodesR : Rx → Nat
  | .mk _ _ l => nodesL 1 l
def nodesL : Nat → List Rx → Nat
  | n, [] => n
  | n, r :: l => if n < 101 then nodesL (n + nodesR r) l else n
end
theorem nodesL_stop {n : Nat} (h : 101 ≤ n) : ∀ l : List Rx, nodesL n l = n
  | [] => rfl
  | r :: l => by simp only [nodesL]; rw [if_neg (by omega)]
mutual
theorem nodes_le : ∀ r : Rx, nodesR r ≤ 100 * depth r + 1
  | .mk _ _ l => by
    have := nodesL_le l 1 (by omega)
    simp only [nodesR, depth]; omega
theorem nodesL_le : ∀ (l : List Rx) (n : Nat), n ≤ 100 * depthL l + 101 → nodesL n l ≤ 100 * depthL l + 101
  | [], n, h => by simpa [nodesL] using h
  | r :: l, n, h => by
    simp only [nodesL, depthL] at h ⊢
    have h1 := nodes_le r
    split
    · rcases Nat.lt_or_ge (n + nodesR r) 101 with h2 | h2
      · have := nodesL_le l (n + nodesR r) (by omega)
        omega
      · rw [nodesL_stop h2]; omega
    · omega
end
theorem depth_kid {k s : Int} {l : List Rx} {r : Rx} (h : r ∈ l) : depth r < depth (.mk k s l) := by
  have : ∀ l : List Rx, r ∈ l → depth r ≤ depthL l := by
    intro l
    induction l with
    | nil => intro h; cases h
    | cons x l ih =>
      intro h
      simp only [depthL]
      rcases List.mem_cons.1 h with rfl | h
      · omega
      · have := ih h; omega
  have := this l h
  simp only [depth]; omega
theorem nodes_ok : ∀ (d : Nat) (r : Rx) (hr : okR r) (hd : depth r ≤ d) (hd2 : d ≤ 1000), PureF Tryz.prog A 16 [rxD r] (.int .i64 (nodesR r)) := by
  intro d
  induction d with
  | zero => rintro ⟨k, s, l⟩ _ h; simp [depth] at h
  | succ d ih =>
    rintro ⟨k, s, l⟩ hr hd hd2
    have hle := nodes_le (.mk k s l)
    have hkid : ∀ x ∈ l, depth x ≤ d := fun x hx => by have := depth_kid (k := k) (s := s) hx; omega
    obtain ⟨_, _, _, _, hlen, hok⟩ := hr
    refine evF_inB (n := 25) (rs := [.tmp 2]) Tryz.func16 rfl rfl rfl rfl rfl rfl ?_
    repeat' (first | refine wz1 ?_ | refine wz2 ?_ | refine wz3 ?_ | refine wz4 ?_ | refine wz5 ?_ | refine wz6 ?_ | simp -dsimp (maxSteps:=999999) (disch:=omega) only[go_sem,simprocAttr, *])
    refine wpB_loop (fun e H => ∃ j : Nat, j ≤ l.length ∧ e 1 = .ptr 0 0 0 ∧ e 4 = .int .i64 j ∧ hget H 0 = .arr [rxD (.mk k s l)] ∧ ∃ n : Nat, e 3 = .int .i64 n ∧ n ≤ 200000 ∧ nodesR (.mk k s l) = nodesL n (l.drop j)) (fun e H => l.length - natOf (e 4)) ?_ ?_
    · exact ⟨0, Nat.zero_le _, gs, rfl, rfl, 1, rfl, by omega, by simp [nodesR]⟩
    · rintro e H ⟨j, hj, e1, e4, h0, n, e3, hn, ha⟩ R hR
      by_cases hb2 : j < l.length
      · rw [List.drop_eq_getElem_cons hb2] at ha
        simp only [nodesL] at ha
        have hn2 := nodes_le l[j]
        have hk := hkid l[j] (List.getElem_mem _)
        by_cases h101 : n < 101
        · rw [if_pos h101] at ha
          repeat' (first | refine wz1 ?_ | refine wz2 ?_ | refine wz3 ?_ | refine wz4 ?_ | refine wz5 ?_ | refine wz6 ?_ | simp -dsimp (maxSteps:=999999) (disch:=omega) only[go_sem,simprocAttr, *])
          refine wz7 (fun hb3 => ?_) (fun hb3 => ?_) <;> try simp -dsimp (maxSteps:=999999) (disch:=omega) only[go_sem,simprocAttr,decide_eq_true_eq,decide_eq_false_iff_not,Bool.not_eq_true,Bool.not_eq_false,Int.not_lt,Int.not_le] at hb3
          repeat' (first | refine wz1 ?_ | refine wz2 ?_ | refine wz3 ?_ | refine wz4 ?_ | refine wz5 ?_ | refine wz6 ?_ | simp -dsimp (maxSteps:=999999) (disch:=omega) only[go_sem,simprocAttr, *])
          refine evB_plain bo16 rfl rfl (strip1 (strip_rx _)) (ih l[j] (okL_get hok _ (List.getElem_mem _)) hk (by omega)) ?_
          simp -dsimp (maxSteps:=999999) (disch:=omega) only[go_sem,simprocAttr, *]
          repeat' (first | refine wz1 ?_ | refine wz2 ?_ | refine wz3 ?_ | refine wz4 ?_ | refine wz5 ?_ | refine wz6 ?_ | simp -dsimp (maxSteps:=999999) (disch:=omega) only[go_sem,simprocAttr, *])
          refine hR _ _ ⟨j + 1, by omega, e1, gs, gs, n + nodesR l[j], gs, by omega, ha⟩ ?_
          simp -dsimp (maxSteps:=999999) (disch:=omega) only[go_sem,simprocAttr, *,natOf_int]
        · rw [if_neg h101] at ha
          repeat' (first | refine wz1 ?_ | refine wz2 ?_ | refine wz3 ?_ | refine wz4 ?_ | refine wz5 ?_ | refine wz6 ?_ | simp -dsimp (maxSteps:=999999) (disch:=omega) only[go_sem,simprocAttr, *])
          refine wz7 (fun hb3 => ?_) (fun hb3 => ?_) <;> try simp -dsimp (maxSteps:=999999) (disch:=omega) only[go_sem,simprocAttr,decide_eq_true_eq,decide_eq_false_iff_not,Bool.not_eq_true,Bool.not_eq_false,Int.not_lt,Int.not_le] at hb3
          repeat' (first | refine wz1 ?_ | refine wz2 ?_ | refine wz3 ?_ | refine wz4 ?_ | refine wz5 ?_ | refine wz6 ?_ | simp -dsimp (maxSteps:=999999) (disch:=omega) only[go_sem,simprocAttr, *])
          try rw [ha]
      · rw [List.drop_eq_nil_of_le (by omega)] at ha
        simp only [nodesL] at ha
        repeat' (first | refine wz1 ?_ | refine wz2 ?_ | refine wz3 ?_ | refine wz4 ?_ | refine wz5 ?_ | refine wz6 ?_ | simp -dsimp (maxSteps:=999999) (disch:=omega) only[go_sem,simprocAttr, *])
        refine wz7 (fun hb3 => ?_) (fun hb3 => ?_) <;> try simp -dsimp (maxSteps:=999999) (disch:=omega) only[go_sem,simprocAttr,decide_eq_true_eq,decide_eq_false_iff_not,Bool.not_eq_true,Bool.not_eq_false,Int.not_lt,Int.not_le] at hb3
        repeat' (first | refine wz1 ?_ | refine wz2 ?_ | refine wz3 ?_ | refine wz4 ?_ | refine wz5 ?_ | refine wz6 ?_ | simp -dsimp (maxSteps:=999999) (disch:=omega) only[go_sem,simprocAttr, *])
        try rw [ha]

/-! ### Shapes -/
def shape1 (k s : Int) (n : Nat) : Bool :=
  if k = 0 then n == 0 && s == 0 else if k = 1 then n == 0 && decide (0 < s) else if k = 2 ∨ k = 3 then decide (0 < n) && s == 0 else if k = 4 ∨ k = 5 then n == 1 && s == 0 else false
theorem beqN_true {a b : Nat} (h : a = b) : (a == b) = true := by simp [h]
theorem beqN_false {a b : Nat} (h : ¬ a = b) : (a == b) = false := by simp [h]
theorem or_false1 {p q : Prop} (h : ¬ p) (g : ¬ q) : (p ∨ q) = False := by simp [h, g]
theorem eqZ_false {a b : Int} (h : ¬ a = b) : (a = b) = False := by simp [h]
mutual
def shapesR : Rx → Bool
  | .mk k s l => shape1 k s l.length && shapesL l
def shapesL : List Rx → Bool
  | [] => true
  | r :: l => shapesR r && shapesL l
end
theorem shapesL_eq (l : List Rx) : shapesL l = l.all shapesR := by
  induction l with
  | nil => rfl
  | cons r l ih => simp [shapesL, ih]
theorem shapes_ok : ∀ (d : Nat) (r : Rx) (hr : okR r) (hd : depth r ≤ d), PureF Tryz.prog A 33 [rxD r] (.bool (shapesR r)) := by
  intro d
  induction d with
  | zero => rintro ⟨k, s, l⟩ _ h; simp [depth] at h
  | succ d ih =>
    rintro ⟨k, s, l⟩ hr hd
    have hkid : ∀ x ∈ l, depth x ≤ d := fun x hx => by have := depth_kid (k := k) (s := s) hx; omega
    obtain ⟨hk0, hk1, hs0, hs1, hlen, hok⟩ := hr
    refine evF_inB (n := 64) (rs := [.tmp 2]) Tryz.func33 rfl rfl rfl rfl rfl rfl ?_
    (refine wz1 ?_; refine wz2 ?_; simp -dsimp (maxSteps:=999999) (disch:=omega) only[go_sem,simprocAttr, *])
    (refine wz1 ?_; refine wz2 ?_; simp -dsimp (maxSteps:=999999) (disch:=omega) only[go_sem,simprocAttr, *])
    (refine wz1 ?_; refine wz2 ?_; simp -dsimp (maxSteps:=999999) (disch:=omega) only[go_sem,simprocAttr, *])
    refine wpB_mid (fun e H => e 1 = .ptr 0 0 0 ∧ e 3 = .int .i64 l.length ∧ e 4 = .bool (shape1 k s l.length) ∧ hget H 0 = .arr [rxD (.mk k s l)]) ?_ ?_
    · intro R hR
      by_cases h0 : k = 0
      · subst h0
        by_cases hl : l.length = 0
        · repeat' (first | refine wz1 ?_ | refine wz2 ?_ | refine wz3 ?_ | refine wz4 ?_ | refine wz5 ?_ | refine wz6 ?_ | simp -dsimp (maxSteps:=999999) (disch:=omega) only[go_sem,simprocAttr, *])
          refine wz7 (fun hb => ?_) (fun hb => ?_) <;> try simp -dsimp (maxSteps:=999999) (disch:=omega) only[go_sem,simprocAttr,decide_eq_true_eq,decide_eq_false_iff_not,Bool.not_eq_true,Bool.not_eq_false,Int.not_lt,Int.not_le] at hb
          repeat' (first | refine wz1 ?_ | refine wz2 ?_ | refine wz3 ?_ | refine wz4 ?_ | refine wz5 ?_ | refine wz6 ?_ | simp -dsimp (maxSteps:=999999) (disch:=omega) only[go_sem,simprocAttr, *])
          refine hR _ _ ⟨gs, gs, by simp -dsimp (maxSteps:=999999) (disch:=omega) only[go_sem,simprocAttr, *,shape1, beqN_true, beqN_false], gs⟩
        · repeat' (first | refine wz1 ?_ | refine wz2 ?_ | refine wz3 ?_ | refine wz4 ?_ | refine wz5 ?_ | refine wz6 ?_ | simp -dsimp (maxSteps:=999999) (disch:=omega) only[go_sem,simprocAttr, *])
          refine wz7 (fun hb => ?_) (fun hb => ?_) <;> try simp -dsimp (maxSteps:=999999) (disch:=omega) only[go_sem,simprocAttr,decide_eq_true_eq,decide_eq_false_iff_not,Bool.not_eq_true,Bool.not_eq_false,Int.not_lt,Int.not_le] at hb
          repeat' (first | refine wz1 ?_ | refine wz2 ?_ | refine wz3 ?_ | refine wz4 ?_ | refine wz5 ?_ | refine wz6 ?_ | simp -dsimp (maxSteps:=999999) (disch:=omega) only[go_sem,simprocAttr, *])
          refine hR _ _ ⟨gs, gs, by simp -dsimp (maxSteps:=999999) (disch:=omega) only[go_sem,simprocAttr, *,shape1, beqN_true, beqN_false], gs⟩
      by_cases h1 : k = 1
      · subst h1
        by_cases hl : l.length = 0
        · repeat' (first | refine wz1 ?_ | refine wz2 ?_ | refine wz3 ?_ | refine wz4 ?_ | refine wz5 ?_ | refine wz6 ?_ | simp -dsimp (maxSteps:=999999) (disch:=omega) only[go_sem,simprocAttr, *])
          refine wz7 (fun hb => ?_) (fun hb => ?_) <;> try simp -dsimp (maxSteps:=999999) (disch:=omega) only[go_sem,simprocAttr,decide_eq_true_eq,decide_eq_false_iff_not,Bool.not_eq_true,Bool.not_eq_false,Int.not_lt,Int.not_le] at hb
          repeat' (first | refine wz1 ?_ | refine wz2 ?_ | refine wz3 ?_ | refine wz4 ?_ | refine wz5 ?_ | refine wz6 ?_ | simp -dsimp (maxSteps:=999999) (disch:=omega) only[go_sem,simprocAttr, *])
          refine wz7 (fun hb => ?_) (fun hb => ?_) <;> try simp -dsimp (maxSteps:=999999) (disch:=omega) only[go_sem,simprocAttr,decide_eq_true_eq,decide_eq_false_iff_not,Bool.not_eq_true,Bool.not_eq_false,Int.not_lt,Int.not_le] at hb
          repeat' (first | refine wz1 ?_ | refine wz2 ?_ | refine wz3 ?_ | refine wz4 ?_ | refine wz5 ?_ | refine wz6 ?_ | simp -dsimp (maxSteps:=999999) (disch:=omega) only[go_sem,simprocAttr, *])
          refine hR _ _ ⟨gs, gs, by simp -dsimp (maxSteps:=999999) (disch:=omega) only[go_sem,simprocAttr, *,shape1, beqN_true, beqN_false], gs⟩
        · repeat' (first | refine wz1 ?_ | refine wz2 ?_ | refine wz3 ?_ | refine wz4 ?_ | refine wz5 ?_ | refine wz6 ?_ | simp -dsimp (maxSteps:=999999) (disch:=omega) only[go_sem,simprocAttr, *])
          refine wz7 (fun hb => ?_) (fun hb => ?_) <;> try simp -dsimp (maxSteps:=999999) (disch:=omega) only[go_sem,simprocAttr,decide_eq_true_eq,decide_eq_false_iff_not,Bool.not_eq_true,Bool.not_eq_false,Int.not_lt,Int.not_le] at hb
          repeat' (first | refine wz1 ?_ | refine wz2 ?_ | refine wz3 ?_ | refine wz4 ?_ | refine wz5 ?_ | refine wz6 ?_ | simp -dsimp (maxSteps:=999999) (disch:=omega) only[go_sem,simprocAttr, *])
          refine wz7 (fun hb => ?_) (fun hb => ?_) <;> try simp -dsimp (maxSteps:=999999) (disch:=omega) only[go_sem,simprocAttr,decide_eq_true_eq,decide_eq_false_iff_not,Bool.not_eq_true,Bool.not_eq_false,Int.not_lt,Int.not_le] at hb
          repeat' (first | refine wz1 ?_ | refine wz2 ?_ | refine wz3 ?_ | refine wz4 ?_ | refine wz5 ?_ | refine wz6 ?_ | simp -dsimp (maxSteps:=999999) (disch:=omega) only[go_sem,simprocAttr, *])
          refine hR _ _ ⟨gs, gs, by simp -dsimp (maxSteps:=999999) (disch:=omega) only[go_sem,simprocAttr, *,shape1, beqN_true, beqN_false], gs⟩
      by_cases h2 : k = 2
      · subst h2
        by_cases hl : 0 < l.length
        · repeat' (first | refine wz1 ?_ | refine wz2 ?_ | refine wz3 ?_ | refine wz4 ?_ | refine wz5 ?_ | refine wz6 ?_ | simp -dsimp (maxSteps:=999999) (disch:=omega) only[go_sem,simprocAttr, *])
          refine wz7 (fun hb => ?_) (fun hb => ?_) <;> try simp -dsimp (maxSteps:=999999) (disch:=omega) only[go_sem,simprocAttr,decide_eq_true_eq,decide_eq_false_iff_not,Bool.not_eq_true,Bool.not_eq_false,Int.not_lt,Int.not_le] at hb
          repeat' (first | refine wz1 ?_ | refine wz2 ?_ | refine wz3 ?_ | refine wz4 ?_ | refine wz5 ?_ | refine wz6 ?_ | simp -dsimp (maxSteps:=999999) (disch:=omega) only[go_sem,simprocAttr, *])
          refine wz7 (fun hb => ?_) (fun hb => ?_) <;> try simp -dsimp (maxSteps:=999999) (disch:=omega) only[go_sem,simprocAttr,decide_eq_true_eq,decide_eq_false_iff_not,Bool.not_eq_true,Bool.not_eq_false,Int.not_lt,Int.not_le] at hb
          repeat' (first | refine wz1 ?_ | refine wz2 ?_ | refine wz3 ?_ | refine wz4 ?_ | refine wz5 ?_ | refine wz6 ?_ | simp -dsimp (maxSteps:=999999) (disch:=omega) only[go_sem,simprocAttr, *])
          refine wz7 (fun hb => ?_) (fun hb => ?_) <;> try simp -dsimp (maxSteps:=999999) (disch:=omega) only[go_sem,simprocAttr,decide_eq_true_eq,decide_eq_false_iff_not,Bool.not_eq_true,Bool.not_eq_false,Int.not_lt,Int.not_le] at hb
          repeat' (first | refine wz1 ?_ | refine wz2 ?_ | refine wz3 ?_ | refine wz4 ?_ | refine wz5 ?_ | refine wz6 ?_ | simp -dsimp (maxSteps:=999999) (disch:=omega) only[go_sem,simprocAttr, *])
          refine wz7 (fun hb => ?_) (fun hb => ?_) <;> try simp -dsimp (maxSteps:=999999) (disch:=omega) only[go_sem,simprocAttr,decide_eq_true_eq,decide_eq_false_iff_not,Bool.not_eq_true,Bool.not_eq_false,Int.not_lt,Int.not_le] at hb
          repeat' (first | refine wz1 ?_ | refine wz2 ?_ | refine wz3 ?_ | refine wz4 ?_ | refine wz5 ?_ | refine wz6 ?_ | simp -dsimp (maxSteps:=999999) (disch:=omega) only[go_sem,simprocAttr, *])
          refine hR _ _ ⟨gs, gs, by simp -dsimp (maxSteps:=999999) (disch:=omega) only[go_sem,simprocAttr, *,shape1, beqN_true, beqN_false], gs⟩
        · repeat' (first | refine wz1 ?_ | refine wz2 ?_ | refine wz3 ?_ | refine wz4 ?_ | refine wz5 ?_ | refine wz6 ?_ | simp -dsimp (maxSteps:=999999) (disch:=omega) only[go_sem,simprocAttr, *])
          refine wz7 (fun hb => ?_) (fun hb => ?_) <;> try simp -dsimp (maxSteps:=999999) (disch:=omega) only[go_sem,simprocAttr,decide_eq_true_eq,decide_eq_false_iff_not,Bool.not_eq_true,Bool.not_eq_false,Int.not_lt,Int.not_le] at hb
          repeat' (first | refine wz1 ?_ | refine wz2 ?_ | refine wz3 ?_ | refine wz4 ?_ | refine wz5 ?_ | refine wz6 ?_ | simp -dsimp (maxSteps:=999999) (disch:=omega) only[go_sem,simprocAttr, *])
          refine wz7 (fun hb => ?_) (fun hb => ?_) <;> try simp -dsimp (maxSteps:=999999) (disch:=omega) only[go_sem,simprocAttr,decide_eq_true_eq,decide_eq_false_iff_not,Bool.not_eq_true,Bool.not_eq_false,Int.not_lt,Int.not_le] at hb
          repeat' (first | refine wz1 ?_ | refine wz2 ?_ | refine wz3 ?_ | refine wz4 ?_ | refine wz5 ?_ | refine wz6 ?_ | simp -dsimp (maxSteps:=999999) (disch:=omega) only[go_sem,simprocAttr, *])
          refine wz7 (fun hb => ?_) (fun hb => ?_) <;> try simp -dsimp (maxSteps:=999999) (disch:=omega) only[go_sem,simprocAttr,decide_eq_true_eq,decide_eq_false_iff_not,Bool.not_eq_true,Bool.not_eq_false,Int.not_lt,Int.not_le] at hb
          repeat' (first | refine wz1 ?_ | refine wz2 ?_ | refine wz3 ?_ | refine wz4 ?_ | refine wz5 ?_ | refine wz6 ?_ | simp -dsimp (maxSteps:=999999) (disch:=omega) only[go_sem,simprocAttr, *])
          refine wz7 (fun hb => ?_) (fun hb => ?_) <;> try simp -dsimp (maxSteps:=999999) (disch:=omega) only[go_sem,simprocAttr,decide_eq_true_eq,decide_eq_false_iff_not,Bool.not_eq_true,Bool.not_eq_false,Int.not_lt,Int.not_le] at hb
          repeat' (first | refine wz1 ?_ | refine wz2 ?_ | refine wz3 ?_ | refine wz4 ?_ | refine wz5 ?_ | refine wz6 ?_ | simp -dsimp (maxSteps:=999999) (disch:=omega) only[go_sem,simprocAttr, *])
          refine hR _ _ ⟨gs, gs, by simp -dsimp (maxSteps:=999999) (disch:=omega) only[go_sem,simprocAttr, *,shape1, beqN_true, beqN_false], gs⟩
      by_cases h3 : k = 3
      · subst h3
        by_cases hl : 0 < l.length
        · repeat' (first | refine wz1 ?_ | refine wz2 ?_ | refine wz3 ?_ | refine wz4 ?_ | refine wz5 ?_ | refine wz6 ?_ | simp -dsimp (maxSteps:=999999) (disch:=omega) only[go_sem,simprocAttr, *])
          refine wz7 (fun hb => ?_) (fun hb => ?_) <;> try simp -dsimp (maxSteps:=999999) (disch:=omega) only[go_sem,simprocAttr,decide_eq_true_eq,decide_eq_false_iff_not,Bool.not_eq_true,Bool.not_eq_false,Int.not_lt,Int.not_le] at hb
          repeat' (first | refine wz1 ?_ | refine wz2 ?_ | refine wz3 ?_ | refine wz4 ?_ | refine wz5 ?_ | refine wz6 ?_ | simp -dsimp (maxSteps:=999999) (disch:=omega) only[go_sem,simprocAttr, *])
          refine wz7 (fun hb => ?_) (fun hb => ?_) <;> try simp -dsimp (maxSteps:=999999) (disch:=omega) only[go_sem,simprocAttr,decide_eq_true_eq,decide_eq_false_iff_not,Bool.not_eq_true,Bool.not_eq_false,Int.not_lt,Int.not_le] at hb
          repeat' (first | refine wz1 ?_ | refine wz2 ?_ | refine wz3 ?_ | refine wz4 ?_ | refine wz5 ?_ | refine wz6 ?_ | simp -dsimp (maxSteps:=999999) (disch:=omega) only[go_sem,simprocAttr, *])
          refine wz7 (fun hb => ?_) (fun hb => ?_) <;> try simp -dsimp (maxSteps:=999999) (disch:=omega) only[go_sem,simprocAttr,decide_eq_true_eq,decide_eq_false_iff_not,Bool.not_eq_true,Bool.not_eq_false,Int.not_lt,Int.not_le] at hb
          repeat' (first | refine wz1 ?_ | refine wz2 ?_ | refine wz3 ?_ | refine wz4 ?_ | refine wz5 ?_ | refine wz6 ?_ | simp -dsimp (maxSteps:=999999) (disch:=omega) only[go_sem,simprocAttr, *])
          refine wz7 (fun hb => ?_) (fun hb => ?_) <;> try simp -dsimp (maxSteps:=999999) (disch:=omega) only[go_sem,simprocAttr,decide_eq_true_eq,decide_eq_false_iff_not,Bool.not_eq_true,Bool.not_eq_false,Int.not_lt,Int.not_le] at hb
          repeat' (first | refine wz1 ?_ | refine wz2 ?_ | refine wz3 ?_ | refine wz4 ?_ | refine wz5 ?_ | refine wz6 ?_ | simp -dsimp (maxSteps:=999999) (disch:=omega) only[go_sem,simprocAttr, *])
          refine hR _ _ ⟨gs, gs, by simp -dsimp (maxSteps:=999999) (disch:=omega) only[go_sem,simprocAttr, *,shape1, beqN_true, beqN_false], gs⟩
        · repeat' (first | refine wz1 ?_ | refine wz2 ?_ | refine wz3 ?_ | refine wz4 ?_ | refine wz5 ?_ | refine wz6 ?_ | simp -dsimp (maxSteps:=999999) (disch:=omega) only[go_sem,simprocAttr, *])
          refine wz7 (fun hb => ?_) (fun hb => ?_) <;> try simp -dsimp (maxSteps:=999999) (disch:=omega) only[go_sem,simprocAttr,decide_eq_true_eq,decide_eq_false_iff_not,Bool.not_eq_true,Bool.not_eq_false,Int.not_lt,Int.not_le] at hb
          repeat' (first | refine wz1 ?_ | refine wz2 ?_ | refine wz3 ?_ | refine wz4 ?_ | refine wz5 ?_ | refine wz6 ?_ | simp -dsimp (maxSteps:=999999) (disch:=omega) only[go_sem,simprocAttr, *])
          refine wz7 (fun hb => ?_) (fun hb => ?_) <;> try simp -dsimp (maxSteps:=999999) (disch:=omega) only[go_sem,simprocAttr,decide_eq_true_eq,decide_eq_false_iff_not,Bool.not_eq_true,Bool.not_eq_false,Int.not_lt,Int.not_le] at hb
          repeat' (first | refine wz1 ?_ | refine wz2 ?_ | refine wz3 ?_ | refine wz4 ?_ | refine wz5 ?_ | refine wz6 ?_ | simp -dsimp (maxSteps:=999999) (disch:=omega) only[go_sem,simprocAttr, *])
          refine wz7 (fun hb => ?_) (fun hb => ?_) <;> try simp -dsimp (maxSteps:=999999) (disch:=omega) only[go_sem,simprocAttr,decide_eq_true_eq,decide_eq_false_iff_not,Bool.not_eq_true,Bool.not_eq_false,Int.not_lt,Int.not_le] at hb
          repeat' (first | refine wz1 ?_ | refine wz2 ?_ | refine wz3 ?_ | refine wz4 ?_ | refine wz5 ?_ | refine wz6 ?_ | simp -dsimp (maxSteps:=999999) (disch:=omega) only[go_sem,simprocAttr, *])
          refine wz7 (fun hb => ?_) (fun hb => ?_) <;> try simp -dsimp (maxSteps:=999999) (disch:=omega) only[go_sem,simprocAttr,decide_eq_true_eq,decide_eq_false_iff_not,Bool.not_eq_true,Bool.not_eq_false,Int.not_lt,Int.not_le] at hb
          repeat' (first | refine wz1 ?_ | refine wz2 ?_ | refine wz3 ?_ | refine wz4 ?_ | refine wz5 ?_ | refine wz6 ?_ | simp -dsimp (maxSteps:=999999) (disch:=omega) only[go_sem,simprocAttr, *])
          refine hR _ _ ⟨gs, gs, by simp -dsimp (maxSteps:=999999) (disch:=omega) only[go_sem,simprocAttr, *,shape1, beqN_true, beqN_false], gs⟩
      by_cases h4 : k = 4
      · subst h4
        by_cases hl : l.length = 1
        · repeat' (first | refine wz1 ?_ | refine wz2 ?_ | refine wz3 ?_ | refine wz4 ?_ | refine wz5 ?_ | refine wz6 ?_ | simp -dsimp (maxSteps:=999999) (disch:=omega) only[go_sem,simprocAttr, *])
          refine wz7 (fun hb => ?_) (fun hb => ?_) <;> try simp -dsimp (maxSteps:=999999) (disch:=omega) only[go_sem,simprocAttr,decide_eq_true_eq,decide_eq_false_iff_not,Bool.not_eq_true,Bool.not_eq_false,Int.not_lt,Int.not_le] at hb
          repeat' (first | refine wz1 ?_ | refine wz2 ?_ | refine wz3 ?_ | refine wz4 ?_ | refine wz5 ?_ | refine wz6 ?_ | simp -dsimp (maxSteps:=999999) (disch:=omega) only[go_sem,simprocAttr, *])
          refine wz7 (fun hb => ?_) (fun hb => ?_) <;> try simp -dsimp (maxSteps:=999999) (disch:=omega) only[go_sem,simprocAttr,decide_eq_true_eq,decide_eq_false_iff_not,Bool.not_eq_true,Bool.not_eq_false,Int.not_lt,Int.not_le] at hb
          repeat' (first | refine wz1 ?_ | refine wz2 ?_ | refine wz3 ?_ | refine wz4 ?_ | refine wz5 ?_ | refine wz6 ?_ | simp -dsimp (maxSteps:=999999) (disch:=omega) only[go_sem,simprocAttr, *])
          refine wz7 (fun hb => ?_) (fun hb => ?_) <;> try simp -dsimp (maxSteps:=999999) (disch:=omega) only[go_sem,simprocAttr,decide_eq_true_eq,decide_eq_false_iff_not,Bool.not_eq_true,Bool.not_eq_false,Int.not_lt,Int.not_le] at hb
          repeat' (first | refine wz1 ?_ | refine wz2 ?_ | refine wz3 ?_ | refine wz4 ?_ | refine wz5 ?_ | refine wz6 ?_ | simp -dsimp (maxSteps:=999999) (disch:=omega) only[go_sem,simprocAttr, *])
          refine wz7 (fun hb => ?_) (fun hb => ?_) <;> try simp -dsimp (maxSteps:=999999) (disch:=omega) only[go_sem,simprocAttr,decide_eq_true_eq,decide_eq_false_iff_not,Bool.not_eq_true,Bool.not_eq_false,Int.not_lt,Int.not_le] at hb
          repeat' (first | refine wz1 ?_ | refine wz2 ?_ | refine wz3 ?_ | refine wz4 ?_ | refine wz5 ?_ | refine wz6 ?_ | simp -dsimp (maxSteps:=999999) (disch:=omega) only[go_sem,simprocAttr, *])
          refine wz7 (fun hb => ?_) (fun hb => ?_) <;> try simp -dsimp (maxSteps:=999999) (disch:=omega) only[go_sem,simprocAttr,decide_eq_true_eq,decide_eq_false_iff_not,Bool.not_eq_true,Bool.not_eq_false,Int.not_lt,Int.not_le] at hb
          repeat' (first | refine wz1 ?_ | refine wz2 ?_ | refine wz3 ?_ | refine wz4 ?_ | refine wz5 ?_ | refine wz6 ?_ | simp -dsimp (maxSteps:=999999) (disch:=omega) only[go_sem,simprocAttr, *])
          refine wz7 (fun hb => ?_) (fun hb => ?_) <;> try simp -dsimp (maxSteps:=999999) (disch:=omega) only[go_sem,simprocAttr,decide_eq_true_eq,decide_eq_false_iff_not,Bool.not_eq_true,Bool.not_eq_false,Int.not_lt,Int.not_le] at hb
          repeat' (first | refine wz1 ?_ | refine wz2 ?_ | refine wz3 ?_ | refine wz4 ?_ | refine wz5 ?_ | refine wz6 ?_ | simp -dsimp (maxSteps:=999999) (disch:=omega) only[go_sem,simprocAttr, *])
          refine hR _ _ ⟨gs, gs, by simp -dsimp (maxSteps:=999999) (disch:=omega) only[go_sem,simprocAttr, *,shape1, beqN_true, beqN_false], gs⟩
        · repeat' (first | refine wz1 ?_ | refine wz2 ?_ | refine wz3 ?_ | refine wz4 ?_ | refine wz5 ?_ | refine wz6 ?_ | simp -dsimp (maxSteps:=999999) (disch:=omega) only[go_sem,simprocAttr, *])
          refine wz7 (fun hb => ?_) (fun hb => ?_) <;> try simp -dsimp (maxSteps:=999999) (disch:=omega) only[go_sem,simprocAttr,decide_eq_true_eq,decide_eq_false_iff_not,Bool.not_eq_true,Bool.not_eq_false,Int.not_lt,Int.not_le] at hb
          repeat' (first | refine wz1 ?_ | refine wz2 ?_ | refine wz3 ?_ | refine wz4 ?_ | refine wz5 ?_ | refine wz6 ?_ | simp -dsimp (maxSteps:=999999) (disch:=omega) only[go_sem,simprocAttr, *])
          refine wz7 (fun hb => ?_) (fun hb => ?_) <;> try simp -dsimp (maxSteps:=999999) (disch:=omega) only[go_sem,simprocAttr,decide_eq_true_eq,decide_eq_false_iff_not,Bool.not_eq_true,Bool.not_eq_false,Int.not_lt,Int.not_le] at hb
          repeat' (first | refine wz1 ?_ | refine wz2 ?_ | refine wz3 ?_ | refine wz4 ?_ | refine wz5 ?_ | refine wz6 ?_ | simp -dsimp (maxSteps:=999999) (disch:=omega) only[go_sem,simprocAttr, *])
          refine wz7 (fun hb => ?_) (fun hb => ?_) <;> try simp -dsimp (maxSteps:=999999) (disch:=omega) only[go_sem,simprocAttr,decide_eq_true_eq,decide_eq_false_iff_not,Bool.not_eq_true,Bool.not_eq_false,Int.not_lt,Int.not_le] at hb
          repeat' (first | refine wz1 ?_ | refine wz2 ?_ | refine wz3 ?_ | refine wz4 ?_ | refine wz5 ?_ | refine wz6 ?_ | simp -dsimp (maxSteps:=999999) (disch:=omega) only[go_sem,simprocAttr, *])
          refine wz7 (fun hb => ?_) (fun hb => ?_) <;> try simp -dsimp (maxSteps:=999999) (disch:=omega) only[go_sem,simprocAttr,decide_eq_true_eq,decide_eq_false_iff_not,Bool.not_eq_true,Bool.not_eq_false,Int.not_lt,Int.not_le] at hb
          repeat' (first | refine wz1 ?_ | refine wz2 ?_ | refine wz3 ?_ | refine wz4 ?_ | refine wz5 ?_ | refine wz6 ?_ | simp -dsimp (maxSteps:=999999) (disch:=omega) only[go_sem,simprocAttr, *])
          refine wz7 (fun hb => ?_) (fun hb => ?_) <;> try simp -dsimp (maxSteps:=999999) (disch:=omega) only[go_sem,simprocAttr,decide_eq_true_eq,decide_eq_false_iff_not,Bool.not_eq_true,Bool.not_eq_false,Int.not_lt,Int.not_le] at hb
          repeat' (first | refine wz1 ?_ | refine wz2 ?_ | refine wz3 ?_ | refine wz4 ?_ | refine wz5 ?_ | refine wz6 ?_ | simp -dsimp (maxSteps:=999999) (disch:=omega) only[go_sem,simprocAttr, *])
          refine wz7 (fun hb => ?_) (fun hb => ?_) <;> try simp -dsimp (maxSteps:=999999) (disch:=omega) only[go_sem,simprocAttr,decide_eq_true_eq,decide_eq_false_iff_not,Bool.not_eq_true,Bool.not_eq_false,Int.not_lt,Int.not_le] at hb
          repeat' (first | refine wz1 ?_ | refine wz2 ?_ | refine wz3 ?_ | refine wz4 ?_ | refine wz5 ?_ | refine wz6 ?_ | simp -dsimp (maxSteps:=999999) (disch:=omega) only[go_sem,simprocAttr, *])
          refine hR _ _ ⟨gs, gs, by simp -dsimp (maxSteps:=999999) (disch:=omega) only[go_sem,simprocAttr, *,shape1, beqN_true, beqN_false], gs⟩
      by_cases h5 : k = 5
      · subst h5
        by_cases hl : l.length = 1
        · repeat' (first | refine wz1 ?_ | refine wz2 ?_ | refine wz3 ?_ | refine wz4 ?_ | refine wz5 ?_ | refine wz6 ?_ | simp -dsimp (maxSteps:=999999) (disch:=omega) only[go_sem,simprocAttr, *])
          refine wz7 (fun hb => ?_) (fun hb => ?_) <;> try simp -dsimp (maxSteps:=999999) (disch:=omega) only[go_sem,simprocAttr,decide_eq_true_eq,decide_eq_false_iff_not,Bool.not_eq_true,Bool.not_eq_false,Int.not_lt,Int.not_le] at hb
          repeat' (first | refine wz1 ?_ | refine wz2 ?_ | refine wz3 ?_ | refine wz4 ?_ | refine wz5 ?_ | refine wz6 ?_ | simp -dsimp (maxSteps:=999999) (disch:=omega) only[go_sem,simprocAttr, *])
          refine wz7 (fun hb => ?_) (fun hb => ?_) <;> try simp -dsimp (maxSteps:=999999) (disch:=omega) only[go_sem,simprocAttr,decide_eq_true_eq,decide_eq_false_iff_not,Bool.not_eq_true,Bool.not_eq_false,Int.not_lt,Int.not_le] at hb
          repeat' (first | refine wz1 ?_ | refine wz2 ?_ | refine wz3 ?_ | refine wz4 ?_ | refine wz5 ?_ | refine wz6 ?_ | simp -dsimp (maxSteps:=999999) (disch:=omega) only[go_sem,simprocAttr, *])
          refine wz7 (fun hb => ?_) (fun hb => ?_) <;> try simp -dsimp (maxSteps:=999999) (disch:=omega) only[go_sem,simprocAttr,decide_eq_true_eq,decide_eq_false_iff_not,Bool.not_eq_true,Bool.not_eq_false,Int.not_lt,Int.not_le] at hb
          repeat' (first | refine wz1 ?_ | refine wz2 ?_ | refine wz3 ?_ | refine wz4 ?_ | refine wz5 ?_ | refine wz6 ?_ | simp -dsimp (maxSteps:=999999) (disch:=omega) only[go_sem,simprocAttr, *])
          refine wz7 (fun hb => ?_) (fun hb => ?_) <;> try simp -dsimp (maxSteps:=999999) (disch:=omega) only[go_sem,simprocAttr,decide_eq_true_eq,decide_eq_false_iff_not,Bool.not_eq_true,Bool.not_eq_false,Int.not_lt,Int.not_le] at hb
          repeat' (first | refine wz1 ?_ | refine wz2 ?_ | refine wz3 ?_ | refine wz4 ?_ | refine wz5 ?_ | refine wz6 ?_ | simp -dsimp (maxSteps:=999999) (disch:=omega) only[go_sem,simprocAttr, *])
          refine wz7 (fun hb => ?_) (fun hb => ?_) <;> try simp -dsimp (maxSteps:=999999) (disch:=omega) only[go_sem,simprocAttr,decide_eq_true_eq,decide_eq_false_iff_not,Bool.not_eq_true,Bool.not_eq_false,Int.not_lt,Int.not_le] at hb
          repeat' (first | refine wz1 ?_ | refine wz2 ?_ | refine wz3 ?_ | refine wz4 ?_ | refine wz5 ?_ | refine wz6 ?_ | simp -dsimp (maxSteps:=999999) (disch:=omega) only[go_sem,simprocAttr, *])
          refine wz7 (fun hb => ?_) (fun hb => ?_) <;> try simp -dsimp (maxSteps:=999999) (disch:=omega) only[go_sem,simprocAttr,decide_eq_true_eq,decide_eq_false_iff_not,Bool.not_eq_true,Bool.not_eq_false,Int.not_lt,Int.not_le] at hb
          repeat' (first | refine wz1 ?_ | refine wz2 ?_ | refine wz3 ?_ | refine wz4 ?_ | refine wz5 ?_ | refine wz6 ?_ | simp -dsimp (maxSteps:=999999) (disch:=omega) only[go_sem,simprocAttr, *])
          refine hR _ _ ⟨gs, gs, by simp -dsimp (maxSteps:=999999) (disch:=omega) only[go_sem,simprocAttr, *,shape1, beqN_true, beqN_false], gs⟩
        · repeat' (first | refine wz1 ?_ | refine wz2 ?_ | refine wz3 ?_ | refine wz4 ?_ | refine wz5 ?_ | refine wz6 ?_ | simp -dsimp (maxSteps:=999999) (disch:=omega) only[go_sem,simprocAttr, *])
          refine wz7 (fun hb => ?_) (fun hb => ?_) <;> try simp -dsimp (maxSteps:=999999) (disch:=omega) only[go_sem,simprocAttr,decide_eq_true_eq,decide_eq_false_iff_not,Bool.not_eq_true,Bool.not_eq_false,Int.not_lt,Int.not_le] at hb
          repeat' (first | refine wz1 ?_ | refine wz2 ?_ | refine wz3 ?_ | refine wz4 ?_ | refine wz5 ?_ | refine wz6 ?_ | simp -dsimp (maxSteps:=999999) (disch:=omega) only[go_sem,simprocAttr, *])
          refine wz7 (fun hb => ?_) (fun hb => ?_) <;> try simp -dsimp (maxSteps:=999999) (disch:=omega) only[go_sem,simprocAttr,decide_eq_true_eq,decide_eq_false_iff_not,Bool.not_eq_true,Bool.not_eq_false,Int.not_lt,Int.not_le] at hb
          repeat' (first | refine wz1 ?_ | refine wz2 ?_ | refine wz3 ?_ | refine wz4 ?_ | refine wz5 ?_ | refine wz6 ?_ | simp -dsimp (maxSteps:=999999) (disch:=omega) only[go_sem,simprocAttr, *])
          refine wz7 (fun hb => ?_) (fun hb => ?_) <;> try simp -dsimp (maxSteps:=999999) (disch:=omega) only[go_sem,simprocAttr,decide_eq_true_eq,decide_eq_false_iff_not,Bool.not_eq_true,Bool.not_eq_false,Int.not_lt,Int.not_le] at hb
          repeat' (first | refine wz1 ?_ | refine wz2 ?_ | refine wz3 ?_ | refine wz4 ?_ | refine wz5 ?_ | refine wz6 ?_ | simp -dsimp (maxSteps:=999999) (disch:=omega) only[go_sem,simprocAttr, *])
          refine wz7 (fun hb => ?_) (fun hb => ?_) <;> try simp -dsimp (maxSteps:=999999) (disch:=omega) only[go_sem,simprocAttr,decide_eq_true_eq,decide_eq_false_iff_not,Bool.not_eq_true,Bool.not_eq_false,Int.not_lt,Int.not_le] at hb
          repeat' (first | refine wz1 ?_ | refine wz2 ?_ | refine wz3 ?_ | refine wz4 ?_ | refine wz5 ?_ | refine wz6 ?_ | simp -dsimp (maxSteps:=999999) (disch:=omega) only[go_sem,simprocAttr, *])
          refine wz7 (fun hb => ?_) (fun hb => ?_) <;> try simp -dsimp (maxSteps:=999999) (disch:=omega) only[go_sem,simprocAttr,decide_eq_true_eq,decide_eq_false_iff_not,Bool.not_eq_true,Bool.not_eq_false,Int.not_lt,Int.not_le] at hb
          repeat' (first | refine wz1 ?_ | refine wz2 ?_ | refine wz3 ?_ | refine wz4 ?_ | refine wz5 ?_ | refine wz6 ?_ | simp -dsimp (maxSteps:=999999) (disch:=omega) only[go_sem,simprocAttr, *])
          refine wz7 (fun hb => ?_) (fun hb => ?_) <;> try simp -dsimp (maxSteps:=999999) (disch:=omega) only[go_sem,simprocAttr,decide_eq_true_eq,decide_eq_false_iff_not,Bool.not_eq_true,Bool.not_eq_false,Int.not_lt,Int.not_le] at hb
          repeat' (first | refine wz1 ?_ | refine wz2 ?_ | refine wz3 ?_ | refine wz4 ?_ | refine wz5 ?_ | refine wz6 ?_ | simp -dsimp (maxSteps:=999999) (disch:=omega) only[go_sem,simprocAttr, *])
          refine hR _ _ ⟨gs, gs, by simp -dsimp (maxSteps:=999999) (disch:=omega) only[go_sem,simprocAttr, *,shape1, beqN_true, beqN_false], gs⟩
      repeat' (first | refine wz1 ?_ | refine wz2 ?_ | refine wz3 ?_ | refine wz4 ?_ | refine wz5 ?_ | refine wz6 ?_ | simp -dsimp (maxSteps:=999999) (disch:=omega) only[go_sem,simprocAttr, *])
      refine wz7 (fun hb => ?_) (fun hb => ?_) <;> try simp -dsimp (maxSteps:=999999) (disch:=omega) only[go_sem,simprocAttr,decide_eq_true_eq,decide_eq_false_iff_not,Bool.not_eq_true,Bool.not_eq_false,Int.not_lt,Int.not_le] at hb
      repeat' (first | refine wz1 ?_ | refine wz2 ?_ | refine wz3 ?_ | refine wz4 ?_ | refine wz5 ?_ | refine wz6 ?_ | simp -dsimp (maxSteps:=999999) (disch:=omega) only[go_sem,simprocAttr, *])
      refine wz7 (fun hb => ?_) (fun hb => ?_) <;> try simp -dsimp (maxSteps:=999999) (disch:=omega) only[go_sem,simprocAttr,decide_eq_true_eq,decide_eq_false_iff_not,Bool.not_eq_true,Bool.not_eq_false,Int.not_lt,Int.not_le] at hb
      repeat' (first | refine wz1 ?_ | refine wz2 ?_ | refine wz3 ?_ | refine wz4 ?_ | refine wz5 ?_ | refine wz6 ?_ | simp -dsimp (maxSteps:=999999) (disch:=omega) only[go_sem,simprocAttr, *])
      refine wz7 (fun hb => ?_) (fun hb => ?_) <;> try simp -dsimp (maxSteps:=999999) (disch:=omega) only[go_sem,simprocAttr,decide_eq_true_eq,decide_eq_false_iff_not,Bool.not_eq_true,Bool.not_eq_false,Int.not_lt,Int.not_le] at hb
      repeat' (first | refine wz1 ?_ | refine wz2 ?_ | refine wz3 ?_ | refine wz4 ?_ | refine wz5 ?_ | refine wz6 ?_ | simp -dsimp (maxSteps:=999999) (disch:=omega) only[go_sem,simprocAttr, *])
      refine wz7 (fun hb => ?_) (fun hb => ?_) <;> try simp -dsimp (maxSteps:=999999) (disch:=omega) only[go_sem,simprocAttr,decide_eq_true_eq,decide_eq_false_iff_not,Bool.not_eq_true,Bool.not_eq_false,Int.not_lt,Int.not_le] at hb
      repeat' (first | refine wz1 ?_ | refine wz2 ?_ | refine wz3 ?_ | refine wz4 ?_ | refine wz5 ?_ | refine wz6 ?_ | simp -dsimp (maxSteps:=999999) (disch:=omega) only[go_sem,simprocAttr, *])
      refine wz7 (fun hb => ?_) (fun hb => ?_) <;> try simp -dsimp (maxSteps:=999999) (disch:=omega) only[go_sem,simprocAttr,decide_eq_true_eq,decide_eq_false_iff_not,Bool.not_eq_true,Bool.not_eq_false,Int.not_lt,Int.not_le] at hb
      repeat' (first | refine wz1 ?_ | refine wz2 ?_ | refine wz3 ?_ | refine wz4 ?_ | refine wz5 ?_ | refine wz6 ?_ | simp -dsimp (maxSteps:=999999) (disch:=omega) only[go_sem,simprocAttr, *])
      refine wz7 (fun hb => ?_) (fun hb => ?_) <;> try simp -dsimp (maxSteps:=999999) (disch:=omega) only[go_sem,simprocAttr,decide_eq_true_eq,decide_eq_false_iff_not,Bool.not_eq_true,Bool.not_eq_false,Int.not_lt,Int.not_le] at hb
      repeat' (first | refine wz1 ?_ | refine wz2 ?_ | refine wz3 ?_ | refine wz4 ?_ | refine wz5 ?_ | refine wz6 ?_ | simp -dsimp (maxSteps:=999999) (disch:=omega) only[go_sem,simprocAttr, *])
      refine hR _ _ ⟨gs, gs, by simp -dsimp (maxSteps:=999999) (disch:=omega) only[go_sem,simprocAttr, *,shape1, eqZ_false, or_false1], gs⟩
    · rintro e H ⟨e1, e3, e4, h0⟩
      generalize hsh : shape1 k s l.length = b at e4
      have hres : shapesR (.mk k s l) = (b && l.all shapesR) := by simp only [shapesR, hsh, shapesL_eq]
      rw [hres]
      refine wpB_seq ?_
      repeat' (first | refine wz1 ?_ | refine wz2 ?_ | refine wz3 ?_ | refine wz4 ?_ | refine wz5 ?_ | refine wz6 ?_ | simp -dsimp (maxSteps:=999999) (disch:=omega) only[go_sem,simprocAttr, *])
      refine wpB_loop (fun e H => ∃ j : Nat, j ≤ l.length ∧ e 1 = .ptr 0 0 0 ∧ e 3 = .int .i64 l.length ∧ e 5 = .int .i64 j ∧ hget H 0 = .arr [rxD (.mk k s l)] ∧ ∃ c : Bool, e 4 = .bool c ∧ (b && l.all shapesR) = (c && (l.drop j).all shapesR)) (fun e H => l.length - natOf (e 5)) ?_ ?_
      · exact ⟨0, Nat.zero_le _, gs, gs, rfl, gs, b, gs, by simp⟩
      · clear hres hsh
        rintro e H ⟨j, hj, e1, e3, e5, h0, c, e4, ha⟩ R hR
        by_cases hb2 : j < l.length
        · cases c with
          | false =>
            repeat' (first | refine wz1 ?_ | refine wz2 ?_ | refine wz3 ?_ | refine wz4 ?_ | refine wz5 ?_ | refine wz6 ?_ | simp -dsimp (maxSteps:=999999) (disch:=omega) only[go_sem,simprocAttr, *])
            refine wz7 (fun hb3 => ?_) (fun hb3 => ?_) <;> try simp -dsimp (maxSteps:=999999) (disch:=omega) only[go_sem,simprocAttr,decide_eq_true_eq,decide_eq_false_iff_not,Bool.not_eq_true,Bool.not_eq_false,Int.not_lt,Int.not_le] at hb3
            repeat' (first | refine wz1 ?_ | refine wz2 ?_ | refine wz3 ?_ | refine wz4 ?_ | refine wz5 ?_ | refine wz6 ?_ | simp -dsimp (maxSteps:=999999) (disch:=omega) only[go_sem,simprocAttr, *])
            try simp [ha]
          | true =>
            rw [List.drop_eq_getElem_cons hb2, List.all_cons, Bool.true_and] at ha
            repeat' (first | refine wz1 ?_ | refine wz2 ?_ | refine wz3 ?_ | refine wz4 ?_ | refine wz5 ?_ | refine wz6 ?_ | simp -dsimp (maxSteps:=999999) (disch:=omega) only[go_sem,simprocAttr, *])
            refine wz7 (fun hb3 => ?_) (fun hb3 => ?_) <;> try simp -dsimp (maxSteps:=999999) (disch:=omega) only[go_sem,simprocAttr,decide_eq_true_eq,decide_eq_false_iff_not,Bool.not_eq_true,Bool.not_eq_false,Int.not_lt,Int.not_le] at hb3
            repeat' (first | refine wz1 ?_ | refine wz2 ?_ | refine wz3 ?_ | refine wz4 ?_ | refine wz5 ?_ | refine wz6 ?_ | simp -dsimp (maxSteps:=999999) (disch:=omega) only[go_sem,simprocAttr, *])
            refine evB_plain bo33 rfl rfl (strip1 (strip_rx _)) (ih l[j] (okL_get hok _ (List.getElem_mem _)) (hkid _ (List.getElem_mem _))) ?_
            simp -dsimp (maxSteps:=999999) (disch:=omega) only[go_sem,simprocAttr, *]
            repeat' (first | refine wz1 ?_ | refine wz2 ?_ | refine wz3 ?_ | refine wz4 ?_ | refine wz5 ?_ | refine wz6 ?_ | simp -dsimp (maxSteps:=999999) (disch:=omega) only[go_sem,simprocAttr, *])
            refine hR _ _ ⟨j + 1, by omega, e1, e3, gs, gs, shapesR l[j], gs, ha⟩ ?_
            simp -dsimp (maxSteps:=999999) (disch:=omega) only[go_sem,simprocAttr, *,natOf_int]
        · rw [List.drop_eq_nil_of_le (by omega)] at ha
          repeat' (first | refine wz1 ?_ | refine wz2 ?_ | refine wz3 ?_ | refine wz4 ?_ | refine wz5 ?_ | refine wz6 ?_ | simp -dsimp (maxSteps:=999999) (disch:=omega) only[go_sem,simprocAttr, *])
          refine wz7 (fun hb3 => ?_) (fun hb3 => ?_) <;> try simp -dsimp (maxSteps:=999999) (disch:=omega) only[go_sem,simprocAttr,decide_eq_true_eq,decide_eq_false_iff_not,Bool.not_eq_true,Bool.not_eq_false,Int.not_lt,Int.not_le] at hb3
          repeat' (first | refine wz1 ?_ | refine wz2 ?_ | refine wz3 ?_ | refine wz4 ?_ | refine wz5 ?_ | refine wz6 ?_ | simp -dsimp (maxSteps:=999999) (disch:=omega) only[go_sem,simprocAttr, *])
          try (rw [ha]; cases c <;> rfl)
          try (cases c <;> rfl)
end Go.Proofs.W
end
