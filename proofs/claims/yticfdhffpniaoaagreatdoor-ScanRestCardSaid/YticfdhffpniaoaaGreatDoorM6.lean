/- Texts that stand behind this claim, one after the other. -/
import Derived.Test.YticfdhffpniaoaaGreatDoorProg
import Derived.Test.YticfdhffpniaoaaGreatDoorM5
import Derived.KernelRfl
import Derived.Test.YticfdhffpniaoaaGreatDoorM3
import Derived.Carry
import Derived.ProofKit
import Derived.Shelf.Strings.Split
import Derived.Shelf.Strings.Cut
import Derived.Shelf.Small.Wraps
import Derived.Shelf.Strings.Prefix
import Derived.Shelf.Sort.Plain
import Derived.Shelf.Slices.CompactI
/- Facts on the types and functions of this seat, by program. -/
section
set_option linter.unusedVariables false
namespace Go.Proofs.Zs09
open Go Vm
theorem sz1 : sizeT Tryz.prog 1 = some 1 := by kernel_rfl
theorem ag1 : isAggT Tryz.prog 1 = some false := by kernel_rfl
theorem zr1 : zeroT Tryz.prog 1 = some (.niln) := by kernel_rfl
theorem by1 : bytesT Tryz.prog 1 = some 8 := by kernel_rfl
theorem un2 : Tryz.prog.underlying 2 = some (.int .i64) := by kernel_rfl
theorem sz2 : sizeT Tryz.prog 2 = some 1 := by kernel_rfl
theorem ag2 : isAggT Tryz.prog 2 = some false := by kernel_rfl
theorem zr2 : zeroT Tryz.prog 2 = some (.int .i64 0) := by kernel_rfl
theorem by2 : bytesT Tryz.prog 2 = some 8 := by kernel_rfl
theorem un3 : Tryz.prog.underlying 3 = some (.int .i64) := by kernel_rfl
theorem sz3 : sizeT Tryz.prog 3 = some 1 := by kernel_rfl
theorem ag3 : isAggT Tryz.prog 3 = some false := by kernel_rfl
theorem zr3 : zeroT Tryz.prog 3 = some (.int .i64 0) := by kernel_rfl
theorem by3 : bytesT Tryz.prog 3 = some 8 := by kernel_rfl
theorem un4 : Tryz.prog.underlying 4 = some .bool := by kernel_rfl
theorem sz4 : sizeT Tryz.prog 4 = some 1 := by kernel_rfl
theorem ag4 : isAggT Tryz.prog 4 = some false := by kernel_rfl
theorem zr4 : zeroT Tryz.prog 4 = some (.bool false) := by kernel_rfl
theorem by4 : bytesT Tryz.prog 4 = some 1 := by kernel_rfl
theorem un5 : Tryz.prog.underlying 5 = some (.int .u8) := by kernel_rfl
theorem sz5 : sizeT Tryz.prog 5 = some 1 := by kernel_rfl
theorem ag5 : isAggT Tryz.prog 5 = some false := by kernel_rfl
theorem zr5 : zeroT Tryz.prog 5 = some (.int .u8 0) := by kernel_rfl
theorem by5 : bytesT Tryz.prog 5 = some 1 := by kernel_rfl
theorem un9 : Tryz.prog.underlying 9 = some .string := by kernel_rfl
theorem sz9 : sizeT Tryz.prog 9 = some 1 := by kernel_rfl
theorem ag9 : isAggT Tryz.prog 9 = some false := by kernel_rfl
theorem zr9 : zeroT Tryz.prog 9 = some (.str []) := by kernel_rfl
theorem by9 : bytesT Tryz.prog 9 = some 16 := by kernel_rfl
theorem sz20 : sizeT Tryz.prog 20 = some 1 := by kernel_rfl
theorem ag20 : isAggT Tryz.prog 20 = some false := by kernel_rfl
theorem zr20 : zeroT Tryz.prog 20 = some (.nili) := by kernel_rfl
theorem by20 : bytesT Tryz.prog 20 = some 16 := by kernel_rfl
theorem un21 : Tryz.prog.underlying 21 = some (.int .i32) := by kernel_rfl
theorem sz21 : sizeT Tryz.prog 21 = some 1 := by kernel_rfl
theorem ag21 : isAggT Tryz.prog 21 = some false := by kernel_rfl
theorem zr21 : zeroT Tryz.prog 21 = some (.int .i32 0) := by kernel_rfl
theorem by21 : bytesT Tryz.prog 21 = some 4 := by kernel_rfl
theorem un22 : Tryz.prog.underlying 22 = some (.slice 67) := by kernel_rfl
theorem sz22 : sizeT Tryz.prog 22 = some 1 := by kernel_rfl
theorem ag22 : isAggT Tryz.prog 22 = some false := by kernel_rfl
theorem zr22 : zeroT Tryz.prog 22 = some (.sl true []) := by kernel_rfl
theorem by22 : bytesT Tryz.prog 22 = some 24 := by kernel_rfl
theorem el22 : elemT Tryz.prog 22 = some 67 := by kernel_rfl
theorem un23 : Tryz.prog.underlying 23 = some (.slice 3) := by kernel_rfl
theorem sz23 : sizeT Tryz.prog 23 = some 1 := by kernel_rfl
theorem ag23 : isAggT Tryz.prog 23 = some false := by kernel_rfl
theorem zr23 : zeroT Tryz.prog 23 = some (.sl true []) := by kernel_rfl
theorem by23 : bytesT Tryz.prog 23 = some 24 := by kernel_rfl
theorem el23 : elemT Tryz.prog 23 = some 3 := by kernel_rfl
theorem sz24 : sizeT Tryz.prog 24 = some 2 := by kernel_rfl
theorem ag24 : isAggT Tryz.prog 24 = some true := by kernel_rfl
theorem by24 : bytesT Tryz.prog 24 = some 48 := by kernel_rfl
theorem fd24_0 : fieldT Tryz.prog 24 0 = some (0, 22) := by kernel_rfl
theorem fd24_1 : fieldT Tryz.prog 24 1 = some (1, 23) := by kernel_rfl
theorem sz25 : sizeT Tryz.prog 25 = some 2 := by kernel_rfl
theorem ag25 : isAggT Tryz.prog 25 = some true := by kernel_rfl
theorem by25 : bytesT Tryz.prog 25 = some 48 := by kernel_rfl
theorem fd25_0 : fieldT Tryz.prog 25 0 = some (0, 22) := by kernel_rfl
theorem fd25_1 : fieldT Tryz.prog 25 1 = some (1, 23) := by kernel_rfl
theorem un26 : Tryz.prog.underlying 26 = some (.slice 30) := by kernel_rfl
theorem sz26 : sizeT Tryz.prog 26 = some 1 := by kernel_rfl
theorem ag26 : isAggT Tryz.prog 26 = some false := by kernel_rfl
theorem zr26 : zeroT Tryz.prog 26 = some (.sl true []) := by kernel_rfl
theorem by26 : bytesT Tryz.prog 26 = some 24 := by kernel_rfl
theorem el26 : elemT Tryz.prog 26 = some 30 := by kernel_rfl
theorem sz27 : sizeT Tryz.prog 27 = some 1 := by kernel_rfl
theorem ag27 : isAggT Tryz.prog 27 = some false := by kernel_rfl
theorem zr27 : zeroT Tryz.prog 27 = some (.niln) := by kernel_rfl
theorem by27 : bytesT Tryz.prog 27 = some 8 := by kernel_rfl
theorem sz28 : sizeT Tryz.prog 28 = some 1 := by kernel_rfl
theorem ag28 : isAggT Tryz.prog 28 = some false := by kernel_rfl
theorem zr28 : zeroT Tryz.prog 28 = some (.niln) := by kernel_rfl
theorem by28 : bytesT Tryz.prog 28 = some 8 := by kernel_rfl
theorem sz29 : sizeT Tryz.prog 29 = some 3 := by kernel_rfl
theorem ag29 : isAggT Tryz.prog 29 = some true := by kernel_rfl
theorem zr29 : zeroT Tryz.prog 29 = some (.agg [.int .i64 0, .int .i64 0, .int .i64 0]) := by kernel_rfl
theorem by29 : bytesT Tryz.prog 29 = some 24 := by kernel_rfl
theorem fd29_0 : fieldT Tryz.prog 29 0 = some (0, 3) := by kernel_rfl
theorem fd29_1 : fieldT Tryz.prog 29 1 = some (1, 3) := by kernel_rfl
theorem fd29_2 : fieldT Tryz.prog 29 2 = some (2, 3) := by kernel_rfl
theorem bd29 (ps : List (Nat × D)) : buildD Tryz.prog 29 ps = (fillD (fun i => ([(0, 1), (1, 1), (2, 1)] : List (Nat × Nat))[i]?) (D.cells (.agg [.int .i64 0, .int .i64 0, .int .i64 0])) ps).map .agg := by kernel_rfl
theorem sz30 : sizeT Tryz.prog 30 = some 3 := by kernel_rfl
theorem ag30 : isAggT Tryz.prog 30 = some true := by kernel_rfl
theorem zr30 : zeroT Tryz.prog 30 = some (.agg [.int .i64 0, .int .i64 0, .int .i64 0]) := by kernel_rfl
theorem by30 : bytesT Tryz.prog 30 = some 24 := by kernel_rfl
theorem fd30_0 : fieldT Tryz.prog 30 0 = some (0, 3) := by kernel_rfl
theorem fd30_1 : fieldT Tryz.prog 30 1 = some (1, 3) := by kernel_rfl
theorem fd30_2 : fieldT Tryz.prog 30 2 = some (2, 3) := by kernel_rfl
theorem bd30 (ps : List (Nat × D)) : buildD Tryz.prog 30 ps = (fillD (fun i => ([(0, 1), (1, 1), (2, 1)] : List (Nat × Nat))[i]?) (D.cells (.agg [.int .i64 0, .int .i64 0, .int .i64 0])) ps).map .agg := by kernel_rfl
theorem sz31 : sizeT Tryz.prog 31 = some 1 := by kernel_rfl
theorem ag31 : isAggT Tryz.prog 31 = some false := by kernel_rfl
theorem zr31 : zeroT Tryz.prog 31 = some (.niln) := by kernel_rfl
theorem by31 : bytesT Tryz.prog 31 = some 8 := by kernel_rfl
theorem sz32 : sizeT Tryz.prog 32 = some 1 := by kernel_rfl
theorem ag32 : isAggT Tryz.prog 32 = some false := by kernel_rfl
theorem zr32 : zeroT Tryz.prog 32 = some (.niln) := by kernel_rfl
theorem by32 : bytesT Tryz.prog 32 = some 8 := by kernel_rfl
theorem sz33 : sizeT Tryz.prog 33 = some 1 := by kernel_rfl
theorem ag33 : isAggT Tryz.prog 33 = some false := by kernel_rfl
theorem zr33 : zeroT Tryz.prog 33 = some (.niln) := by kernel_rfl
theorem by33 : bytesT Tryz.prog 33 = some 8 := by kernel_rfl
theorem sz34 : sizeT Tryz.prog 34 = some 1 := by kernel_rfl
theorem ag34 : isAggT Tryz.prog 34 = some false := by kernel_rfl
theorem zr34 : zeroT Tryz.prog 34 = some (.niln) := by kernel_rfl
theorem by34 : bytesT Tryz.prog 34 = some 8 := by kernel_rfl
theorem un35 : Tryz.prog.underlying 35 = some (.slice 57) := by kernel_rfl
theorem sz35 : sizeT Tryz.prog 35 = some 1 := by kernel_rfl
theorem ag35 : isAggT Tryz.prog 35 = some false := by kernel_rfl
theorem zr35 : zeroT Tryz.prog 35 = some (.sl true []) := by kernel_rfl
theorem by35 : bytesT Tryz.prog 35 = some 24 := by kernel_rfl
theorem el35 : elemT Tryz.prog 35 = some 57 := by kernel_rfl
theorem un36 : Tryz.prog.underlying 36 = some (.slice 23) := by kernel_rfl
theorem sz36 : sizeT Tryz.prog 36 = some 1 := by kernel_rfl
theorem ag36 : isAggT Tryz.prog 36 = some false := by kernel_rfl
theorem zr36 : zeroT Tryz.prog 36 = some (.sl true []) := by kernel_rfl
theorem by36 : bytesT Tryz.prog 36 = some 24 := by kernel_rfl
theorem el36 : elemT Tryz.prog 36 = some 23 := by kernel_rfl
theorem sz37 : sizeT Tryz.prog 37 = some 1 := by kernel_rfl
theorem ag37 : isAggT Tryz.prog 37 = some false := by kernel_rfl
theorem zr37 : zeroT Tryz.prog 37 = some (.niln) := by kernel_rfl
theorem by37 : bytesT Tryz.prog 37 = some 8 := by kernel_rfl
theorem un38 : Tryz.prog.underlying 38 = some (.pointer 86) := by kernel_rfl
theorem sz38 : sizeT Tryz.prog 38 = some 1 := by kernel_rfl
theorem ag38 : isAggT Tryz.prog 38 = some false := by kernel_rfl
theorem zr38 : zeroT Tryz.prog 38 = some (.nilp) := by kernel_rfl
theorem by38 : bytesT Tryz.prog 38 = some 8 := by kernel_rfl
theorem sz39 : sizeT Tryz.prog 39 = some 1 := by kernel_rfl
theorem ag39 : isAggT Tryz.prog 39 = some false := by kernel_rfl
theorem zr39 : zeroT Tryz.prog 39 = some (.niln) := by kernel_rfl
theorem by39 : bytesT Tryz.prog 39 = some 8 := by kernel_rfl
theorem un40 : Tryz.prog.underlying 40 = some (.int .i64) := by kernel_rfl
theorem sz40 : sizeT Tryz.prog 40 = some 1 := by kernel_rfl
theorem ag40 : isAggT Tryz.prog 40 = some false := by kernel_rfl
theorem zr40 : zeroT Tryz.prog 40 = some (.int .i64 0) := by kernel_rfl
theorem by40 : bytesT Tryz.prog 40 = some 8 := by kernel_rfl
theorem sz42 : sizeT Tryz.prog 42 = some 1 := by kernel_rfl
theorem ag42 : isAggT Tryz.prog 42 = some false := by kernel_rfl
theorem zr42 : zeroT Tryz.prog 42 = some (.niln) := by kernel_rfl
theorem by42 : bytesT Tryz.prog 42 = some 8 := by kernel_rfl
theorem sz44 : sizeT Tryz.prog 44 = some 1 := by kernel_rfl
theorem ag44 : isAggT Tryz.prog 44 = some false := by kernel_rfl
theorem zr44 : zeroT Tryz.prog 44 = some (.niln) := by kernel_rfl
theorem by44 : bytesT Tryz.prog 44 = some 8 := by kernel_rfl
theorem sz45 : sizeT Tryz.prog 45 = some 1 := by kernel_rfl
theorem ag45 : isAggT Tryz.prog 45 = some false := by kernel_rfl
theorem zr45 : zeroT Tryz.prog 45 = some (.niln) := by kernel_rfl
theorem by45 : bytesT Tryz.prog 45 = some 8 := by kernel_rfl
theorem sz46 : sizeT Tryz.prog 46 = some 1 := by kernel_rfl
theorem ag46 : isAggT Tryz.prog 46 = some false := by kernel_rfl
theorem zr46 : zeroT Tryz.prog 46 = some (.niln) := by kernel_rfl
theorem by46 : bytesT Tryz.prog 46 = some 8 := by kernel_rfl
theorem sz47 : sizeT Tryz.prog 47 = some 1 := by kernel_rfl
theorem ag47 : isAggT Tryz.prog 47 = some false := by kernel_rfl
theorem zr47 : zeroT Tryz.prog 47 = some (.niln) := by kernel_rfl
theorem by47 : bytesT Tryz.prog 47 = some 8 := by kernel_rfl
theorem sz49 : sizeT Tryz.prog 49 = some 1 := by kernel_rfl
theorem ag49 : isAggT Tryz.prog 49 = some false := by kernel_rfl
theorem zr49 : zeroT Tryz.prog 49 = some (.niln) := by kernel_rfl
theorem by49 : bytesT Tryz.prog 49 = some 8 := by kernel_rfl
theorem un50 : Tryz.prog.underlying 50 = some (.slice 55) := by kernel_rfl
theorem sz50 : sizeT Tryz.prog 50 = some 1 := by kernel_rfl
theorem ag50 : isAggT Tryz.prog 50 = some false := by kernel_rfl
theorem zr50 : zeroT Tryz.prog 50 = some (.sl true []) := by kernel_rfl
theorem by50 : bytesT Tryz.prog 50 = some 24 := by kernel_rfl
theorem el50 : elemT Tryz.prog 50 = some 55 := by kernel_rfl
theorem sz51 : sizeT Tryz.prog 51 = some 1 := by kernel_rfl
theorem ag51 : isAggT Tryz.prog 51 = some false := by kernel_rfl
theorem zr51 : zeroT Tryz.prog 51 = some (.niln) := by kernel_rfl
theorem by51 : bytesT Tryz.prog 51 = some 8 := by kernel_rfl
theorem sz52 : sizeT Tryz.prog 52 = some 1 := by kernel_rfl
theorem ag52 : isAggT Tryz.prog 52 = some false := by kernel_rfl
theorem zr52 : zeroT Tryz.prog 52 = some (.niln) := by kernel_rfl
theorem by52 : bytesT Tryz.prog 52 = some 8 := by kernel_rfl
theorem un53 : Tryz.prog.underlying 53 = some (.int .u16) := by kernel_rfl
theorem sz53 : sizeT Tryz.prog 53 = some 1 := by kernel_rfl
theorem ag53 : isAggT Tryz.prog 53 = some false := by kernel_rfl
theorem zr53 : zeroT Tryz.prog 53 = some (.int .u16 0) := by kernel_rfl
theorem by53 : bytesT Tryz.prog 53 = some 2 := by kernel_rfl
theorem sz54 : sizeT Tryz.prog 54 = some 3 := by kernel_rfl
theorem ag54 : isAggT Tryz.prog 54 = some true := by kernel_rfl
theorem zr54 : zeroT Tryz.prog 54 = some (.agg [.int .u8 0, .int .u16 0, .sl true []]) := by kernel_rfl
theorem by54 : bytesT Tryz.prog 54 = some 32 := by kernel_rfl
theorem fd54_0 : fieldT Tryz.prog 54 0 = some (0, 5) := by kernel_rfl
theorem fd54_1 : fieldT Tryz.prog 54 1 = some (1, 53) := by kernel_rfl
theorem fd54_2 : fieldT Tryz.prog 54 2 = some (2, 50) := by kernel_rfl
theorem bd54 (ps : List (Nat × D)) : buildD Tryz.prog 54 ps = (fillD (fun i => ([(0, 1), (1, 1), (2, 1)] : List (Nat × Nat))[i]?) (D.cells (.agg [.int .u8 0, .int .u16 0, .sl true []])) ps).map .agg := by kernel_rfl
theorem sz55 : sizeT Tryz.prog 55 = some 3 := by kernel_rfl
theorem ag55 : isAggT Tryz.prog 55 = some true := by kernel_rfl
theorem zr55 : zeroT Tryz.prog 55 = some (.agg [.int .u8 0, .int .u16 0, .sl true []]) := by kernel_rfl
theorem by55 : bytesT Tryz.prog 55 = some 32 := by kernel_rfl
theorem fd55_0 : fieldT Tryz.prog 55 0 = some (0, 5) := by kernel_rfl
theorem fd55_1 : fieldT Tryz.prog 55 1 = some (1, 53) := by kernel_rfl
theorem fd55_2 : fieldT Tryz.prog 55 2 = some (2, 50) := by kernel_rfl
theorem bd55 (ps : List (Nat × D)) : buildD Tryz.prog 55 ps = (fillD (fun i => ([(0, 1), (1, 1), (2, 1)] : List (Nat × Nat))[i]?) (D.cells (.agg [.int .u8 0, .int .u16 0, .sl true []])) ps).map .agg := by kernel_rfl
theorem sz56 : sizeT Tryz.prog 56 = some 5 := by kernel_rfl
theorem ag56 : isAggT Tryz.prog 56 = some true := by kernel_rfl
theorem by56 : bytesT Tryz.prog 56 = some 56 := by kernel_rfl
theorem fd56_0 : fieldT Tryz.prog 56 0 = some (0, 9) := by kernel_rfl
theorem fd56_1 : fieldT Tryz.prog 56 1 = some (1, 55) := by kernel_rfl
theorem fd56_2 : fieldT Tryz.prog 56 2 = some (4, 4) := by kernel_rfl
theorem sz57 : sizeT Tryz.prog 57 = some 5 := by kernel_rfl
theorem ag57 : isAggT Tryz.prog 57 = some true := by kernel_rfl
theorem by57 : bytesT Tryz.prog 57 = some 56 := by kernel_rfl
theorem fd57_0 : fieldT Tryz.prog 57 0 = some (0, 9) := by kernel_rfl
theorem fd57_1 : fieldT Tryz.prog 57 1 = some (1, 55) := by kernel_rfl
theorem fd57_2 : fieldT Tryz.prog 57 2 = some (4, 4) := by kernel_rfl
theorem sz58 : sizeT Tryz.prog 58 = some 1 := by kernel_rfl
theorem ag58 : isAggT Tryz.prog 58 = some false := by kernel_rfl
theorem zr58 : zeroT Tryz.prog 58 = some (.niln) := by kernel_rfl
theorem by58 : bytesT Tryz.prog 58 = some 8 := by kernel_rfl
theorem sz59 : sizeT Tryz.prog 59 = some 1 := by kernel_rfl
theorem ag59 : isAggT Tryz.prog 59 = some false := by kernel_rfl
theorem zr59 : zeroT Tryz.prog 59 = some (.niln) := by kernel_rfl
theorem by59 : bytesT Tryz.prog 59 = some 8 := by kernel_rfl
theorem sz60 : sizeT Tryz.prog 60 = some 1 := by kernel_rfl
theorem ag60 : isAggT Tryz.prog 60 = some false := by kernel_rfl
theorem zr60 : zeroT Tryz.prog 60 = some (.niln) := by kernel_rfl
theorem by60 : bytesT Tryz.prog 60 = some 8 := by kernel_rfl
theorem sz61 : sizeT Tryz.prog 61 = some 1 := by kernel_rfl
theorem ag61 : isAggT Tryz.prog 61 = some false := by kernel_rfl
theorem zr61 : zeroT Tryz.prog 61 = some (.niln) := by kernel_rfl
theorem by61 : bytesT Tryz.prog 61 = some 8 := by kernel_rfl
theorem sz62 : sizeT Tryz.prog 62 = some 1 := by kernel_rfl
theorem ag62 : isAggT Tryz.prog 62 = some false := by kernel_rfl
theorem zr62 : zeroT Tryz.prog 62 = some (.niln) := by kernel_rfl
theorem by62 : bytesT Tryz.prog 62 = some 8 := by kernel_rfl
theorem sz64 : sizeT Tryz.prog 64 = some 1 := by kernel_rfl
theorem ag64 : isAggT Tryz.prog 64 = some false := by kernel_rfl
theorem zr64 : zeroT Tryz.prog 64 = some (.niln) := by kernel_rfl
theorem by64 : bytesT Tryz.prog 64 = some 8 := by kernel_rfl
theorem sz66 : sizeT Tryz.prog 66 = some 1 := by kernel_rfl
theorem ag66 : isAggT Tryz.prog 66 = some false := by kernel_rfl
theorem zr66 : zeroT Tryz.prog 66 = some (.niln) := by kernel_rfl
theorem by66 : bytesT Tryz.prog 66 = some 8 := by kernel_rfl
theorem un67 : Tryz.prog.underlying 67 = some (.array 16 3) := by kernel_rfl
theorem sz67 : sizeT Tryz.prog 67 = some 16 := by kernel_rfl
theorem ag67 : isAggT Tryz.prog 67 = some true := by kernel_rfl
theorem zr67 : zeroT Tryz.prog 67 = some (.agg [.int .i64 0, .int .i64 0, .int .i64 0, .int .i64 0, .int .i64 0, .int .i64 0, .int .i64 0, .int .i64 0, .int .i64 0, .int .i64 0, .int .i64 0, .int .i64 0, .int .i64 0, .int .i64 0, .int .i64 0, .int .i64 0]) := by kernel_rfl
theorem by67 : bytesT Tryz.prog 67 = some 128 := by kernel_rfl
theorem bd67 (ps : List (Nat × D)) : buildD Tryz.prog 67 ps = (fillD (fun i => some (i * 1, 1)) (D.cells (.agg [.int .i64 0, .int .i64 0, .int .i64 0, .int .i64 0, .int .i64 0, .int .i64 0, .int .i64 0, .int .i64 0, .int .i64 0, .int .i64 0, .int .i64 0, .int .i64 0, .int .i64 0, .int .i64 0, .int .i64 0, .int .i64 0])) ps).map .agg := by kernel_rfl
theorem sz68 : sizeT Tryz.prog 68 = some 1 := by kernel_rfl
theorem ag68 : isAggT Tryz.prog 68 = some false := by kernel_rfl
theorem zr68 : zeroT Tryz.prog 68 = some (.niln) := by kernel_rfl
theorem by68 : bytesT Tryz.prog 68 = some 8 := by kernel_rfl
theorem sz69 : sizeT Tryz.prog 69 = some 1 := by kernel_rfl
theorem ag69 : isAggT Tryz.prog 69 = some false := by kernel_rfl
theorem zr69 : zeroT Tryz.prog 69 = some (.niln) := by kernel_rfl
theorem by69 : bytesT Tryz.prog 69 = some 8 := by kernel_rfl
theorem ag70 : isAggT Tryz.prog 70 = some true := by kernel_rfl
theorem zr70 : zeroT Tryz.prog 70 = some (.agg []) := by kernel_rfl
theorem by70 : bytesT Tryz.prog 70 = some 0 := by kernel_rfl
theorem ag71 : isAggT Tryz.prog 71 = some true := by kernel_rfl
theorem zr71 : zeroT Tryz.prog 71 = some (.agg []) := by kernel_rfl
theorem by71 : bytesT Tryz.prog 71 = some 0 := by kernel_rfl
theorem ag72 : isAggT Tryz.prog 72 = some true := by kernel_rfl
theorem zr72 : zeroT Tryz.prog 72 = some (.agg []) := by kernel_rfl
theorem by72 : bytesT Tryz.prog 72 = some 0 := by kernel_rfl
theorem un73 : Tryz.prog.underlying 73 = some (.int .u32) := by kernel_rfl
theorem sz73 : sizeT Tryz.prog 73 = some 1 := by kernel_rfl
theorem ag73 : isAggT Tryz.prog 73 = some false := by kernel_rfl
theorem zr73 : zeroT Tryz.prog 73 = some (.int .u32 0) := by kernel_rfl
theorem by73 : bytesT Tryz.prog 73 = some 4 := by kernel_rfl
theorem sz74 : sizeT Tryz.prog 74 = some 1 := by kernel_rfl
theorem ag74 : isAggT Tryz.prog 74 = some true := by kernel_rfl
theorem zr74 : zeroT Tryz.prog 74 = some (.agg [.int .u32 0]) := by kernel_rfl
theorem by74 : bytesT Tryz.prog 74 = some 4 := by kernel_rfl
theorem fd74_0 : fieldT Tryz.prog 74 0 = some (0, 72) := by kernel_rfl
theorem fd74_1 : fieldT Tryz.prog 74 1 = some (0, 73) := by kernel_rfl
theorem bd74 (ps : List (Nat × D)) : buildD Tryz.prog 74 ps = (fillD (fun i => ([(0, 0), (0, 1)] : List (Nat × Nat))[i]?) (D.cells (.agg [.int .u32 0])) ps).map .agg := by kernel_rfl
theorem sz75 : sizeT Tryz.prog 75 = some 1 := by kernel_rfl
theorem ag75 : isAggT Tryz.prog 75 = some true := by kernel_rfl
theorem zr75 : zeroT Tryz.prog 75 = some (.agg [.int .u32 0]) := by kernel_rfl
theorem by75 : bytesT Tryz.prog 75 = some 4 := by kernel_rfl
theorem fd75_0 : fieldT Tryz.prog 75 0 = some (0, 72) := by kernel_rfl
theorem fd75_1 : fieldT Tryz.prog 75 1 = some (0, 73) := by kernel_rfl
theorem bd75 (ps : List (Nat × D)) : buildD Tryz.prog 75 ps = (fillD (fun i => ([(0, 0), (0, 1)] : List (Nat × Nat))[i]?) (D.cells (.agg [.int .u32 0])) ps).map .agg := by kernel_rfl
theorem sz76 : sizeT Tryz.prog 76 = some 2 := by kernel_rfl
theorem ag76 : isAggT Tryz.prog 76 = some true := by kernel_rfl
theorem zr76 : zeroT Tryz.prog 76 = some (.agg [.int .i32 0, .int .u32 0]) := by kernel_rfl
theorem by76 : bytesT Tryz.prog 76 = some 8 := by kernel_rfl
theorem fd76_0 : fieldT Tryz.prog 76 0 = some (0, 21) := by kernel_rfl
theorem fd76_1 : fieldT Tryz.prog 76 1 = some (1, 73) := by kernel_rfl
theorem bd76 (ps : List (Nat × D)) : buildD Tryz.prog 76 ps = (fillD (fun i => ([(0, 1), (1, 1)] : List (Nat × Nat))[i]?) (D.cells (.agg [.int .i32 0, .int .u32 0])) ps).map .agg := by kernel_rfl
theorem sz77 : sizeT Tryz.prog 77 = some 2 := by kernel_rfl
theorem ag77 : isAggT Tryz.prog 77 = some true := by kernel_rfl
theorem zr77 : zeroT Tryz.prog 77 = some (.agg [.int .i32 0, .int .u32 0]) := by kernel_rfl
theorem by77 : bytesT Tryz.prog 77 = some 8 := by kernel_rfl
theorem fd77_0 : fieldT Tryz.prog 77 0 = some (0, 21) := by kernel_rfl
theorem fd77_1 : fieldT Tryz.prog 77 1 = some (1, 73) := by kernel_rfl
theorem bd77 (ps : List (Nat × D)) : buildD Tryz.prog 77 ps = (fillD (fun i => ([(0, 1), (1, 1)] : List (Nat × Nat))[i]?) (D.cells (.agg [.int .i32 0, .int .u32 0])) ps).map .agg := by kernel_rfl
theorem sz78 : sizeT Tryz.prog 78 = some 2 := by kernel_rfl
theorem ag78 : isAggT Tryz.prog 78 = some true := by kernel_rfl
theorem zr78 : zeroT Tryz.prog 78 = some (.agg [.int .i32 0, .int .u32 0]) := by kernel_rfl
theorem by78 : bytesT Tryz.prog 78 = some 8 := by kernel_rfl
theorem fd78_0 : fieldT Tryz.prog 78 0 = some (0, 71) := by kernel_rfl
theorem fd78_1 : fieldT Tryz.prog 78 1 = some (0, 77) := by kernel_rfl
theorem bd78 (ps : List (Nat × D)) : buildD Tryz.prog 78 ps = (fillD (fun i => ([(0, 0), (0, 2)] : List (Nat × Nat))[i]?) (D.cells (.agg [.int .i32 0, .int .u32 0])) ps).map .agg := by kernel_rfl
theorem sz79 : sizeT Tryz.prog 79 = some 2 := by kernel_rfl
theorem ag79 : isAggT Tryz.prog 79 = some true := by kernel_rfl
theorem zr79 : zeroT Tryz.prog 79 = some (.agg [.int .i32 0, .int .u32 0]) := by kernel_rfl
theorem by79 : bytesT Tryz.prog 79 = some 8 := by kernel_rfl
theorem fd79_0 : fieldT Tryz.prog 79 0 = some (0, 71) := by kernel_rfl
theorem fd79_1 : fieldT Tryz.prog 79 1 = some (0, 77) := by kernel_rfl
theorem bd79 (ps : List (Nat × D)) : buildD Tryz.prog 79 ps = (fillD (fun i => ([(0, 0), (0, 2)] : List (Nat × Nat))[i]?) (D.cells (.agg [.int .i32 0, .int .u32 0])) ps).map .agg := by kernel_rfl
theorem sz80 : sizeT Tryz.prog 80 = some 3 := by kernel_rfl
theorem ag80 : isAggT Tryz.prog 80 = some true := by kernel_rfl
theorem zr80 : zeroT Tryz.prog 80 = some (.agg [.int .u32 0, .int .i32 0, .int .u32 0]) := by kernel_rfl
theorem by80 : bytesT Tryz.prog 80 = some 12 := by kernel_rfl
theorem fd80_0 : fieldT Tryz.prog 80 0 = some (0, 71) := by kernel_rfl
theorem fd80_1 : fieldT Tryz.prog 80 1 = some (0, 75) := by kernel_rfl
theorem fd80_2 : fieldT Tryz.prog 80 2 = some (1, 79) := by kernel_rfl
theorem bd80 (ps : List (Nat × D)) : buildD Tryz.prog 80 ps = (fillD (fun i => ([(0, 0), (0, 1), (1, 2)] : List (Nat × Nat))[i]?) (D.cells (.agg [.int .u32 0, .int .i32 0, .int .u32 0])) ps).map .agg := by kernel_rfl
theorem sz81 : sizeT Tryz.prog 81 = some 3 := by kernel_rfl
theorem ag81 : isAggT Tryz.prog 81 = some true := by kernel_rfl
theorem zr81 : zeroT Tryz.prog 81 = some (.agg [.int .u32 0, .int .i32 0, .int .u32 0]) := by kernel_rfl
theorem by81 : bytesT Tryz.prog 81 = some 12 := by kernel_rfl
theorem fd81_0 : fieldT Tryz.prog 81 0 = some (0, 71) := by kernel_rfl
theorem fd81_1 : fieldT Tryz.prog 81 1 = some (0, 75) := by kernel_rfl
theorem fd81_2 : fieldT Tryz.prog 81 2 = some (1, 79) := by kernel_rfl
theorem bd81 (ps : List (Nat × D)) : buildD Tryz.prog 81 ps = (fillD (fun i => ([(0, 0), (0, 1), (1, 2)] : List (Nat × Nat))[i]?) (D.cells (.agg [.int .u32 0, .int .i32 0, .int .u32 0])) ps).map .agg := by kernel_rfl
theorem ag82 : isAggT Tryz.prog 82 = some true := by kernel_rfl
theorem zr82 : zeroT Tryz.prog 82 = some (.agg []) := by kernel_rfl
theorem by82 : bytesT Tryz.prog 82 = some 0 := by kernel_rfl
theorem sz83 : sizeT Tryz.prog 83 = some 1 := by kernel_rfl
theorem ag83 : isAggT Tryz.prog 83 = some true := by kernel_rfl
theorem zr83 : zeroT Tryz.prog 83 = some (.agg [.int .i64 0]) := by kernel_rfl
theorem by83 : bytesT Tryz.prog 83 = some 8 := by kernel_rfl
theorem fd83_0 : fieldT Tryz.prog 83 0 = some (0, 72) := by kernel_rfl
theorem fd83_1 : fieldT Tryz.prog 83 1 = some (0, 82) := by kernel_rfl
theorem fd83_2 : fieldT Tryz.prog 83 2 = some (0, 2) := by kernel_rfl
theorem bd83 (ps : List (Nat × D)) : buildD Tryz.prog 83 ps = (fillD (fun i => ([(0, 0), (0, 0), (0, 1)] : List (Nat × Nat))[i]?) (D.cells (.agg [.int .i64 0])) ps).map .agg := by kernel_rfl
theorem sz84 : sizeT Tryz.prog 84 = some 1 := by kernel_rfl
theorem ag84 : isAggT Tryz.prog 84 = some true := by kernel_rfl
theorem zr84 : zeroT Tryz.prog 84 = some (.agg [.int .i64 0]) := by kernel_rfl
theorem by84 : bytesT Tryz.prog 84 = some 8 := by kernel_rfl
theorem fd84_0 : fieldT Tryz.prog 84 0 = some (0, 72) := by kernel_rfl
theorem fd84_1 : fieldT Tryz.prog 84 1 = some (0, 82) := by kernel_rfl
theorem fd84_2 : fieldT Tryz.prog 84 2 = some (0, 2) := by kernel_rfl
theorem bd84 (ps : List (Nat × D)) : buildD Tryz.prog 84 ps = (fillD (fun i => ([(0, 0), (0, 0), (0, 1)] : List (Nat × Nat))[i]?) (D.cells (.agg [.int .i64 0])) ps).map .agg := by kernel_rfl
theorem sz85 : sizeT Tryz.prog 85 = some 8 := by kernel_rfl
theorem ag85 : isAggT Tryz.prog 85 = some true := by kernel_rfl
theorem by85 : bytesT Tryz.prog 85 = some 104 := by kernel_rfl
theorem fd85_0 : fieldT Tryz.prog 85 0 = some (0, 35) := by kernel_rfl
theorem fd85_1 : fieldT Tryz.prog 85 1 = some (1, 81) := by kernel_rfl
theorem fd85_2 : fieldT Tryz.prog 85 2 = some (4, 25) := by kernel_rfl
theorem fd85_3 : fieldT Tryz.prog 85 3 = some (6, 40) := by kernel_rfl
theorem fd85_4 : fieldT Tryz.prog 85 4 = some (7, 84) := by kernel_rfl
theorem sz86 : sizeT Tryz.prog 86 = some 8 := by kernel_rfl
theorem ag86 : isAggT Tryz.prog 86 = some true := by kernel_rfl
theorem by86 : bytesT Tryz.prog 86 = some 104 := by kernel_rfl
theorem fd86_0 : fieldT Tryz.prog 86 0 = some (0, 35) := by kernel_rfl
theorem fd86_1 : fieldT Tryz.prog 86 1 = some (1, 81) := by kernel_rfl
theorem fd86_2 : fieldT Tryz.prog 86 2 = some (4, 25) := by kernel_rfl
theorem fd86_3 : fieldT Tryz.prog 86 3 = some (6, 40) := by kernel_rfl
theorem fd86_4 : fieldT Tryz.prog 86 4 = some (7, 84) := by kernel_rfl
theorem sz87 : sizeT Tryz.prog 87 = some 1 := by kernel_rfl
theorem ag87 : isAggT Tryz.prog 87 = some false := by kernel_rfl
theorem zr87 : zeroT Tryz.prog 87 = some (.niln) := by kernel_rfl
theorem by87 : bytesT Tryz.prog 87 = some 8 := by kernel_rfl
theorem sz88 : sizeT Tryz.prog 88 = some 1 := by kernel_rfl
theorem ag88 : isAggT Tryz.prog 88 = some false := by kernel_rfl
theorem zr88 : zeroT Tryz.prog 88 = some (.niln) := by kernel_rfl
theorem by88 : bytesT Tryz.prog 88 = some 8 := by kernel_rfl
theorem sz89 : sizeT Tryz.prog 89 = some 1 := by kernel_rfl
theorem ag89 : isAggT Tryz.prog 89 = some false := by kernel_rfl
theorem zr89 : zeroT Tryz.prog 89 = some (.niln) := by kernel_rfl
theorem by89 : bytesT Tryz.prog 89 = some 8 := by kernel_rfl
theorem sz90 : sizeT Tryz.prog 90 = some 1 := by kernel_rfl
theorem ag90 : isAggT Tryz.prog 90 = some false := by kernel_rfl
theorem zr90 : zeroT Tryz.prog 90 = some (.niln) := by kernel_rfl
theorem by90 : bytesT Tryz.prog 90 = some 8 := by kernel_rfl
theorem sz91 : sizeT Tryz.prog 91 = some 1 := by kernel_rfl
theorem ag91 : isAggT Tryz.prog 91 = some false := by kernel_rfl
theorem zr91 : zeroT Tryz.prog 91 = some (.niln) := by kernel_rfl
theorem by91 : bytesT Tryz.prog 91 = some 8 := by kernel_rfl
theorem sz92 : sizeT Tryz.prog 92 = some 1 := by kernel_rfl
theorem ag92 : isAggT Tryz.prog 92 = some false := by kernel_rfl
theorem zr92 : zeroT Tryz.prog 92 = some (.niln) := by kernel_rfl
theorem by92 : bytesT Tryz.prog 92 = some 8 := by kernel_rfl
theorem sz93 : sizeT Tryz.prog 93 = some 1 := by kernel_rfl
theorem ag93 : isAggT Tryz.prog 93 = some false := by kernel_rfl
theorem zr93 : zeroT Tryz.prog 93 = some (.niln) := by kernel_rfl
theorem by93 : bytesT Tryz.prog 93 = some 8 := by kernel_rfl
theorem un94 : Tryz.prog.underlying 94 = some (.slice 53) := by kernel_rfl
theorem sz94 : sizeT Tryz.prog 94 = some 1 := by kernel_rfl
theorem ag94 : isAggT Tryz.prog 94 = some false := by kernel_rfl
theorem zr94 : zeroT Tryz.prog 94 = some (.sl true []) := by kernel_rfl
theorem by94 : bytesT Tryz.prog 94 = some 24 := by kernel_rfl
theorem el94 : elemT Tryz.prog 94 = some 53 := by kernel_rfl
theorem sz95 : sizeT Tryz.prog 95 = some 4 := by kernel_rfl
theorem ag95 : isAggT Tryz.prog 95 = some true := by kernel_rfl
theorem by95 : bytesT Tryz.prog 95 = some 96 := by kernel_rfl
theorem fd95_0 : fieldT Tryz.prog 95 0 = some (0, 36) := by kernel_rfl
theorem fd95_1 : fieldT Tryz.prog 95 1 = some (1, 94) := by kernel_rfl
theorem fd95_2 : fieldT Tryz.prog 95 2 = some (2, 23) := by kernel_rfl
theorem fd95_3 : fieldT Tryz.prog 95 3 = some (3, 23) := by kernel_rfl
theorem sz96 : sizeT Tryz.prog 96 = some 4 := by kernel_rfl
theorem ag96 : isAggT Tryz.prog 96 = some true := by kernel_rfl
theorem by96 : bytesT Tryz.prog 96 = some 96 := by kernel_rfl
theorem fd96_0 : fieldT Tryz.prog 96 0 = some (0, 36) := by kernel_rfl
theorem fd96_1 : fieldT Tryz.prog 96 1 = some (1, 94) := by kernel_rfl
theorem fd96_2 : fieldT Tryz.prog 96 2 = some (2, 23) := by kernel_rfl
theorem fd96_3 : fieldT Tryz.prog 96 3 = some (3, 23) := by kernel_rfl
theorem sz98 : sizeT Tryz.prog 98 = some 1 := by kernel_rfl
theorem ag98 : isAggT Tryz.prog 98 = some false := by kernel_rfl
theorem zr98 : zeroT Tryz.prog 98 = some (.niln) := by kernel_rfl
theorem by98 : bytesT Tryz.prog 98 = some 8 := by kernel_rfl
theorem un99 : Tryz.prog.underlying 99 = some (.slice 4) := by kernel_rfl
theorem sz99 : sizeT Tryz.prog 99 = some 1 := by kernel_rfl
theorem ag99 : isAggT Tryz.prog 99 = some false := by kernel_rfl
theorem zr99 : zeroT Tryz.prog 99 = some (.sl true []) := by kernel_rfl
theorem by99 : bytesT Tryz.prog 99 = some 24 := by kernel_rfl
theorem el99 : elemT Tryz.prog 99 = some 4 := by kernel_rfl
theorem sz100 : sizeT Tryz.prog 100 = some 1 := by kernel_rfl
theorem ag100 : isAggT Tryz.prog 100 = some false := by kernel_rfl
theorem zr100 : zeroT Tryz.prog 100 = some (.niln) := by kernel_rfl
theorem by100 : bytesT Tryz.prog 100 = some 8 := by kernel_rfl
theorem sz101 : sizeT Tryz.prog 101 = some 1 := by kernel_rfl
theorem ag101 : isAggT Tryz.prog 101 = some false := by kernel_rfl
theorem zr101 : zeroT Tryz.prog 101 = some (.niln) := by kernel_rfl
theorem by101 : bytesT Tryz.prog 101 = some 8 := by kernel_rfl
theorem un102 : Tryz.prog.underlying 102 = some (.slice 99) := by kernel_rfl
theorem sz102 : sizeT Tryz.prog 102 = some 1 := by kernel_rfl
theorem ag102 : isAggT Tryz.prog 102 = some false := by kernel_rfl
theorem zr102 : zeroT Tryz.prog 102 = some (.sl true []) := by kernel_rfl
theorem by102 : bytesT Tryz.prog 102 = some 24 := by kernel_rfl
theorem el102 : elemT Tryz.prog 102 = some 99 := by kernel_rfl
theorem sz103 : sizeT Tryz.prog 103 = some 1 := by kernel_rfl
theorem ag103 : isAggT Tryz.prog 103 = some false := by kernel_rfl
theorem zr103 : zeroT Tryz.prog 103 = some (.niln) := by kernel_rfl
theorem by103 : bytesT Tryz.prog 103 = some 8 := by kernel_rfl
theorem sz104 : sizeT Tryz.prog 104 = some 1 := by kernel_rfl
theorem ag104 : isAggT Tryz.prog 104 = some false := by kernel_rfl
theorem zr104 : zeroT Tryz.prog 104 = some (.niln) := by kernel_rfl
theorem by104 : bytesT Tryz.prog 104 = some 8 := by kernel_rfl
theorem sz105 : sizeT Tryz.prog 105 = some 1 := by kernel_rfl
theorem ag105 : isAggT Tryz.prog 105 = some false := by kernel_rfl
theorem zr105 : zeroT Tryz.prog 105 = some (.niln) := by kernel_rfl
theorem by105 : bytesT Tryz.prog 105 = some 8 := by kernel_rfl
theorem sz106 : sizeT Tryz.prog 106 = some 1 := by kernel_rfl
theorem ag106 : isAggT Tryz.prog 106 = some false := by kernel_rfl
theorem zr106 : zeroT Tryz.prog 106 = some (.niln) := by kernel_rfl
theorem by106 : bytesT Tryz.prog 106 = some 8 := by kernel_rfl
theorem sz107 : sizeT Tryz.prog 107 = some 1 := by kernel_rfl
theorem ag107 : isAggT Tryz.prog 107 = some false := by kernel_rfl
theorem zr107 : zeroT Tryz.prog 107 = some (.niln) := by kernel_rfl
theorem by107 : bytesT Tryz.prog 107 = some 8 := by kernel_rfl
theorem sz108 : sizeT Tryz.prog 108 = some 1 := by kernel_rfl
theorem ag108 : isAggT Tryz.prog 108 = some false := by kernel_rfl
theorem zr108 : zeroT Tryz.prog 108 = some (.niln) := by kernel_rfl
theorem by108 : bytesT Tryz.prog 108 = some 8 := by kernel_rfl
theorem sz109 : sizeT Tryz.prog 109 = some 1 := by kernel_rfl
theorem ag109 : isAggT Tryz.prog 109 = some false := by kernel_rfl
theorem zr109 : zeroT Tryz.prog 109 = some (.niln) := by kernel_rfl
theorem by109 : bytesT Tryz.prog 109 = some 8 := by kernel_rfl
theorem un110 : Tryz.prog.underlying 110 = some (.slice 9) := by kernel_rfl
theorem sz110 : sizeT Tryz.prog 110 = some 1 := by kernel_rfl
theorem ag110 : isAggT Tryz.prog 110 = some false := by kernel_rfl
theorem zr110 : zeroT Tryz.prog 110 = some (.sl true []) := by kernel_rfl
theorem by110 : bytesT Tryz.prog 110 = some 24 := by kernel_rfl
theorem el110 : elemT Tryz.prog 110 = some 9 := by kernel_rfl
theorem sz111 : sizeT Tryz.prog 111 = some 1 := by kernel_rfl
theorem ag111 : isAggT Tryz.prog 111 = some false := by kernel_rfl
theorem zr111 : zeroT Tryz.prog 111 = some (.niln) := by kernel_rfl
theorem by111 : bytesT Tryz.prog 111 = some 8 := by kernel_rfl
theorem sz113 : sizeT Tryz.prog 113 = some 1 := by kernel_rfl
theorem ag113 : isAggT Tryz.prog 113 = some false := by kernel_rfl
theorem zr113 : zeroT Tryz.prog 113 = some (.niln) := by kernel_rfl
theorem by113 : bytesT Tryz.prog 113 = some 8 := by kernel_rfl
theorem sz114 : sizeT Tryz.prog 114 = some 1 := by kernel_rfl
theorem ag114 : isAggT Tryz.prog 114 = some false := by kernel_rfl
theorem zr114 : zeroT Tryz.prog 114 = some (.niln) := by kernel_rfl
theorem by114 : bytesT Tryz.prog 114 = some 8 := by kernel_rfl
theorem sz115 : sizeT Tryz.prog 115 = some 1 := by kernel_rfl
theorem ag115 : isAggT Tryz.prog 115 = some false := by kernel_rfl
theorem zr115 : zeroT Tryz.prog 115 = some (.niln) := by kernel_rfl
theorem by115 : bytesT Tryz.prog 115 = some 8 := by kernel_rfl
theorem sz116 : sizeT Tryz.prog 116 = some 1 := by kernel_rfl
theorem ag116 : isAggT Tryz.prog 116 = some false := by kernel_rfl
theorem zr116 : zeroT Tryz.prog 116 = some (.niln) := by kernel_rfl
theorem by116 : bytesT Tryz.prog 116 = some 8 := by kernel_rfl
theorem sz117 : sizeT Tryz.prog 117 = some 1 := by kernel_rfl
theorem ag117 : isAggT Tryz.prog 117 = some false := by kernel_rfl
theorem zr117 : zeroT Tryz.prog 117 = some (.niln) := by kernel_rfl
theorem by117 : bytesT Tryz.prog 117 = some 8 := by kernel_rfl
theorem sz118 : sizeT Tryz.prog 118 = some 1 := by kernel_rfl
theorem ag118 : isAggT Tryz.prog 118 = some false := by kernel_rfl
theorem zr118 : zeroT Tryz.prog 118 = some (.niln) := by kernel_rfl
theorem by118 : bytesT Tryz.prog 118 = some 8 := by kernel_rfl
theorem un119 : Tryz.prog.underlying 119 = some (.pointer 81) := by kernel_rfl
theorem sz119 : sizeT Tryz.prog 119 = some 1 := by kernel_rfl
theorem ag119 : isAggT Tryz.prog 119 = some false := by kernel_rfl
theorem zr119 : zeroT Tryz.prog 119 = some (.nilp) := by kernel_rfl
theorem by119 : bytesT Tryz.prog 119 = some 8 := by kernel_rfl
theorem sz120 : sizeT Tryz.prog 120 = some 1 := by kernel_rfl
theorem ag120 : isAggT Tryz.prog 120 = some false := by kernel_rfl
theorem zr120 : zeroT Tryz.prog 120 = some (.niln) := by kernel_rfl
theorem by120 : bytesT Tryz.prog 120 = some 8 := by kernel_rfl
theorem un121 : Tryz.prog.underlying 121 = some (.pointer 84) := by kernel_rfl
theorem sz121 : sizeT Tryz.prog 121 = some 1 := by kernel_rfl
theorem ag121 : isAggT Tryz.prog 121 = some false := by kernel_rfl
theorem zr121 : zeroT Tryz.prog 121 = some (.nilp) := by kernel_rfl
theorem by121 : bytesT Tryz.prog 121 = some 8 := by kernel_rfl
theorem sz122 : sizeT Tryz.prog 122 = some 1 := by kernel_rfl
theorem ag122 : isAggT Tryz.prog 122 = some false := by kernel_rfl
theorem zr122 : zeroT Tryz.prog 122 = some (.niln) := by kernel_rfl
theorem by122 : bytesT Tryz.prog 122 = some 8 := by kernel_rfl
theorem un123 : Tryz.prog.underlying 123 = some (.pointer 2) := by kernel_rfl
theorem sz123 : sizeT Tryz.prog 123 = some 1 := by kernel_rfl
theorem ag123 : isAggT Tryz.prog 123 = some false := by kernel_rfl
theorem zr123 : zeroT Tryz.prog 123 = some (.nilp) := by kernel_rfl
theorem by123 : bytesT Tryz.prog 123 = some 8 := by kernel_rfl
theorem sz124 : sizeT Tryz.prog 124 = some 1 := by kernel_rfl
theorem ag124 : isAggT Tryz.prog 124 = some false := by kernel_rfl
theorem zr124 : zeroT Tryz.prog 124 = some (.niln) := by kernel_rfl
theorem by124 : bytesT Tryz.prog 124 = some 8 := by kernel_rfl
theorem sz125 : sizeT Tryz.prog 125 = some 1 := by kernel_rfl
theorem ag125 : isAggT Tryz.prog 125 = some false := by kernel_rfl
theorem zr125 : zeroT Tryz.prog 125 = some (.niln) := by kernel_rfl
theorem by125 : bytesT Tryz.prog 125 = some 8 := by kernel_rfl
theorem sz126 : sizeT Tryz.prog 126 = some 1 := by kernel_rfl
theorem ag126 : isAggT Tryz.prog 126 = some false := by kernel_rfl
theorem zr126 : zeroT Tryz.prog 126 = some (.niln) := by kernel_rfl
theorem by126 : bytesT Tryz.prog 126 = some 8 := by kernel_rfl
theorem un127 : Tryz.prog.underlying 127 = some (.int .u64) := by kernel_rfl
theorem sz127 : sizeT Tryz.prog 127 = some 1 := by kernel_rfl
theorem ag127 : isAggT Tryz.prog 127 = some false := by kernel_rfl
theorem zr127 : zeroT Tryz.prog 127 = some (.int .u64 0) := by kernel_rfl
theorem by127 : bytesT Tryz.prog 127 = some 8 := by kernel_rfl
theorem sz128 : sizeT Tryz.prog 128 = some 1 := by kernel_rfl
theorem ag128 : isAggT Tryz.prog 128 = some false := by kernel_rfl
theorem zr128 : zeroT Tryz.prog 128 = some (.niln) := by kernel_rfl
theorem by128 : bytesT Tryz.prog 128 = some 8 := by kernel_rfl
theorem sz129 : sizeT Tryz.prog 129 = some 1 := by kernel_rfl
theorem ag129 : isAggT Tryz.prog 129 = some false := by kernel_rfl
theorem zr129 : zeroT Tryz.prog 129 = some (.niln) := by kernel_rfl
theorem by129 : bytesT Tryz.prog 129 = some 8 := by kernel_rfl
theorem sz130 : sizeT Tryz.prog 130 = some 1 := by kernel_rfl
theorem ag130 : isAggT Tryz.prog 130 = some false := by kernel_rfl
theorem zr130 : zeroT Tryz.prog 130 = some (.niln) := by kernel_rfl
theorem by130 : bytesT Tryz.prog 130 = some 8 := by kernel_rfl
theorem sz131 : sizeT Tryz.prog 131 = some 1 := by kernel_rfl
theorem ag131 : isAggT Tryz.prog 131 = some false := by kernel_rfl
theorem zr131 : zeroT Tryz.prog 131 = some (.niln) := by kernel_rfl
theorem by131 : bytesT Tryz.prog 131 = some 8 := by kernel_rfl
theorem sz132 : sizeT Tryz.prog 132 = some 1 := by kernel_rfl
theorem ag132 : isAggT Tryz.prog 132 = some false := by kernel_rfl
theorem zr132 : zeroT Tryz.prog 132 = some (.niln) := by kernel_rfl
theorem by132 : bytesT Tryz.prog 132 = some 8 := by kernel_rfl
theorem sz134 : sizeT Tryz.prog 134 = some 1 := by kernel_rfl
theorem ag134 : isAggT Tryz.prog 134 = some false := by kernel_rfl
theorem zr134 : zeroT Tryz.prog 134 = some (.niln) := by kernel_rfl
theorem by134 : bytesT Tryz.prog 134 = some 8 := by kernel_rfl
theorem sz136 : sizeT Tryz.prog 136 = some 1 := by kernel_rfl
theorem ag136 : isAggT Tryz.prog 136 = some false := by kernel_rfl
theorem zr136 : zeroT Tryz.prog 136 = some (.niln) := by kernel_rfl
theorem by136 : bytesT Tryz.prog 136 = some 8 := by kernel_rfl
theorem sz138 : sizeT Tryz.prog 138 = some 1 := by kernel_rfl
theorem ag138 : isAggT Tryz.prog 138 = some false := by kernel_rfl
theorem zr138 : zeroT Tryz.prog 138 = some (.niln) := by kernel_rfl
theorem by138 : bytesT Tryz.prog 138 = some 8 := by kernel_rfl
theorem sz139 : sizeT Tryz.prog 139 = some 1 := by kernel_rfl
theorem ag139 : isAggT Tryz.prog 139 = some false := by kernel_rfl
theorem zr139 : zeroT Tryz.prog 139 = some (.niln) := by kernel_rfl
theorem by139 : bytesT Tryz.prog 139 = some 8 := by kernel_rfl
theorem un140 : Tryz.prog.underlying 140 = some (.pointer 75) := by kernel_rfl
theorem sz140 : sizeT Tryz.prog 140 = some 1 := by kernel_rfl
theorem ag140 : isAggT Tryz.prog 140 = some false := by kernel_rfl
theorem zr140 : zeroT Tryz.prog 140 = some (.nilp) := by kernel_rfl
theorem by140 : bytesT Tryz.prog 140 = some 8 := by kernel_rfl
theorem sz141 : sizeT Tryz.prog 141 = some 1 := by kernel_rfl
theorem ag141 : isAggT Tryz.prog 141 = some false := by kernel_rfl
theorem zr141 : zeroT Tryz.prog 141 = some (.niln) := by kernel_rfl
theorem by141 : bytesT Tryz.prog 141 = some 8 := by kernel_rfl
theorem un142 : Tryz.prog.underlying 142 = some (.pointer 73) := by kernel_rfl
theorem sz142 : sizeT Tryz.prog 142 = some 1 := by kernel_rfl
theorem ag142 : isAggT Tryz.prog 142 = some false := by kernel_rfl
theorem zr142 : zeroT Tryz.prog 142 = some (.nilp) := by kernel_rfl
theorem by142 : bytesT Tryz.prog 142 = some 8 := by kernel_rfl
theorem sz143 : sizeT Tryz.prog 143 = some 1 := by kernel_rfl
theorem ag143 : isAggT Tryz.prog 143 = some false := by kernel_rfl
theorem zr143 : zeroT Tryz.prog 143 = some (.niln) := by kernel_rfl
theorem by143 : bytesT Tryz.prog 143 = some 8 := by kernel_rfl
theorem sz145 : sizeT Tryz.prog 145 = some 1 := by kernel_rfl
theorem ag145 : isAggT Tryz.prog 145 = some false := by kernel_rfl
theorem zr145 : zeroT Tryz.prog 145 = some (.niln) := by kernel_rfl
theorem by145 : bytesT Tryz.prog 145 = some 8 := by kernel_rfl
theorem un146 : Tryz.prog.underlying 146 = some (.pointer 149) := by kernel_rfl
theorem sz146 : sizeT Tryz.prog 146 = some 1 := by kernel_rfl
theorem ag146 : isAggT Tryz.prog 146 = some false := by kernel_rfl
theorem zr146 : zeroT Tryz.prog 146 = some (.nilp) := by kernel_rfl
theorem by146 : bytesT Tryz.prog 146 = some 8 := by kernel_rfl
theorem un147 : Tryz.prog.underlying 147 = some (.map 9 3) := by kernel_rfl
theorem sz147 : sizeT Tryz.prog 147 = some 1 := by kernel_rfl
theorem ag147 : isAggT Tryz.prog 147 = some false := by kernel_rfl
theorem zr147 : zeroT Tryz.prog 147 = some (.nilm) := by kernel_rfl
theorem by147 : bytesT Tryz.prog 147 = some 8 := by kernel_rfl
theorem sz148 : sizeT Tryz.prog 148 = some 8 := by kernel_rfl
theorem ag148 : isAggT Tryz.prog 148 = some true := by kernel_rfl
theorem by148 : bytesT Tryz.prog 148 = some 176 := by kernel_rfl
theorem fd148_0 : fieldT Tryz.prog 148 0 = some (0, 96) := by kernel_rfl
theorem fd148_1 : fieldT Tryz.prog 148 1 = some (4, 25) := by kernel_rfl
theorem fd148_2 : fieldT Tryz.prog 148 2 = some (6, 147) := by kernel_rfl
theorem fd148_3 : fieldT Tryz.prog 148 3 = some (7, 36) := by kernel_rfl
theorem sz149 : sizeT Tryz.prog 149 = some 8 := by kernel_rfl
theorem ag149 : isAggT Tryz.prog 149 = some true := by kernel_rfl
theorem by149 : bytesT Tryz.prog 149 = some 176 := by kernel_rfl
theorem fd149_0 : fieldT Tryz.prog 149 0 = some (0, 96) := by kernel_rfl
theorem fd149_1 : fieldT Tryz.prog 149 1 = some (4, 25) := by kernel_rfl
theorem fd149_2 : fieldT Tryz.prog 149 2 = some (6, 147) := by kernel_rfl
theorem fd149_3 : fieldT Tryz.prog 149 3 = some (7, 36) := by kernel_rfl
theorem sz150 : sizeT Tryz.prog 150 = some 1 := by kernel_rfl
theorem ag150 : isAggT Tryz.prog 150 = some false := by kernel_rfl
theorem zr150 : zeroT Tryz.prog 150 = some (.niln) := by kernel_rfl
theorem by150 : bytesT Tryz.prog 150 = some 8 := by kernel_rfl
theorem sz151 : sizeT Tryz.prog 151 = some 1 := by kernel_rfl
theorem ag151 : isAggT Tryz.prog 151 = some false := by kernel_rfl
theorem zr151 : zeroT Tryz.prog 151 = some (.niln) := by kernel_rfl
theorem by151 : bytesT Tryz.prog 151 = some 8 := by kernel_rfl
theorem sz152 : sizeT Tryz.prog 152 = some 1 := by kernel_rfl
theorem ag152 : isAggT Tryz.prog 152 = some false := by kernel_rfl
theorem zr152 : zeroT Tryz.prog 152 = some (.niln) := by kernel_rfl
theorem by152 : bytesT Tryz.prog 152 = some 8 := by kernel_rfl
theorem sz153 : sizeT Tryz.prog 153 = some 1 := by kernel_rfl
theorem ag153 : isAggT Tryz.prog 153 = some false := by kernel_rfl
theorem zr153 : zeroT Tryz.prog 153 = some (.niln) := by kernel_rfl
theorem by153 : bytesT Tryz.prog 153 = some 8 := by kernel_rfl
theorem un154 : Tryz.prog.underlying 154 = some (.map 3 3) := by kernel_rfl
theorem sz154 : sizeT Tryz.prog 154 = some 1 := by kernel_rfl
theorem ag154 : isAggT Tryz.prog 154 = some false := by kernel_rfl
theorem zr154 : zeroT Tryz.prog 154 = some (.nilm) := by kernel_rfl
theorem by154 : bytesT Tryz.prog 154 = some 8 := by kernel_rfl
theorem sz156 : sizeT Tryz.prog 156 = some 1 := by kernel_rfl
theorem ag156 : isAggT Tryz.prog 156 = some false := by kernel_rfl
theorem zr156 : zeroT Tryz.prog 156 = some (.niln) := by kernel_rfl
theorem by156 : bytesT Tryz.prog 156 = some 8 := by kernel_rfl
theorem un157 : Tryz.prog.underlying 157 = some (.pointer 3) := by kernel_rfl
theorem sz157 : sizeT Tryz.prog 157 = some 1 := by kernel_rfl
theorem ag157 : isAggT Tryz.prog 157 = some false := by kernel_rfl
theorem zr157 : zeroT Tryz.prog 157 = some (.nilp) := by kernel_rfl
theorem by157 : bytesT Tryz.prog 157 = some 8 := by kernel_rfl
theorem sz158 : sizeT Tryz.prog 158 = some 1 := by kernel_rfl
theorem ag158 : isAggT Tryz.prog 158 = some false := by kernel_rfl
theorem zr158 : zeroT Tryz.prog 158 = some (.niln) := by kernel_rfl
theorem by158 : bytesT Tryz.prog 158 = some 8 := by kernel_rfl
theorem ag159 : isAggT Tryz.prog 159 = some true := by kernel_rfl
theorem zr159 : zeroT Tryz.prog 159 = some (.agg []) := by kernel_rfl
theorem by159 : bytesT Tryz.prog 159 = some 0 := by kernel_rfl
theorem un161 : Tryz.prog.underlying 161 = some (.pointer 163) := by kernel_rfl
theorem sz161 : sizeT Tryz.prog 161 = some 1 := by kernel_rfl
theorem ag161 : isAggT Tryz.prog 161 = some false := by kernel_rfl
theorem zr161 : zeroT Tryz.prog 161 = some (.nilp) := by kernel_rfl
theorem by161 : bytesT Tryz.prog 161 = some 8 := by kernel_rfl
theorem sz162 : sizeT Tryz.prog 162 = some 2 := by kernel_rfl
theorem ag162 : isAggT Tryz.prog 162 = some true := by kernel_rfl
theorem zr162 : zeroT Tryz.prog 162 = some (.agg [.str [], .int .i64 0]) := by kernel_rfl
theorem by162 : bytesT Tryz.prog 162 = some 24 := by kernel_rfl
theorem fd162_0 : fieldT Tryz.prog 162 0 = some (0, 9) := by kernel_rfl
theorem fd162_1 : fieldT Tryz.prog 162 1 = some (1, 3) := by kernel_rfl
theorem bd162 (ps : List (Nat × D)) : buildD Tryz.prog 162 ps = (fillD (fun i => ([(0, 1), (1, 1)] : List (Nat × Nat))[i]?) (D.cells (.agg [.str [], .int .i64 0])) ps).map .agg := by kernel_rfl
theorem sz163 : sizeT Tryz.prog 163 = some 2 := by kernel_rfl
theorem ag163 : isAggT Tryz.prog 163 = some true := by kernel_rfl
theorem zr163 : zeroT Tryz.prog 163 = some (.agg [.str [], .int .i64 0]) := by kernel_rfl
theorem by163 : bytesT Tryz.prog 163 = some 24 := by kernel_rfl
theorem fd163_0 : fieldT Tryz.prog 163 0 = some (0, 9) := by kernel_rfl
theorem fd163_1 : fieldT Tryz.prog 163 1 = some (1, 3) := by kernel_rfl
theorem bd163 (ps : List (Nat × D)) : buildD Tryz.prog 163 ps = (fillD (fun i => ([(0, 1), (1, 1)] : List (Nat × Nat))[i]?) (D.cells (.agg [.str [], .int .i64 0])) ps).map .agg := by kernel_rfl
theorem sz164 : sizeT Tryz.prog 164 = some 1 := by kernel_rfl
theorem ag164 : isAggT Tryz.prog 164 = some false := by kernel_rfl
theorem zr164 : zeroT Tryz.prog 164 = some (.niln) := by kernel_rfl
theorem by164 : bytesT Tryz.prog 164 = some 8 := by kernel_rfl
theorem un165 : Tryz.prog.underlying 165 = some (.pointer 79) := by kernel_rfl
theorem sz165 : sizeT Tryz.prog 165 = some 1 := by kernel_rfl
theorem ag165 : isAggT Tryz.prog 165 = some false := by kernel_rfl
theorem zr165 : zeroT Tryz.prog 165 = some (.nilp) := by kernel_rfl
theorem by165 : bytesT Tryz.prog 165 = some 8 := by kernel_rfl
theorem sz166 : sizeT Tryz.prog 166 = some 1 := by kernel_rfl
theorem ag166 : isAggT Tryz.prog 166 = some false := by kernel_rfl
theorem zr166 : zeroT Tryz.prog 166 = some (.niln) := by kernel_rfl
theorem by166 : bytesT Tryz.prog 166 = some 8 := by kernel_rfl
theorem sz167 : sizeT Tryz.prog 167 = some 1 := by kernel_rfl
theorem ag167 : isAggT Tryz.prog 167 = some false := by kernel_rfl
theorem zr167 : zeroT Tryz.prog 167 = some (.niln) := by kernel_rfl
theorem by167 : bytesT Tryz.prog 167 = some 8 := by kernel_rfl
theorem un168 : Tryz.prog.underlying 168 = some (.pointer 170) := by kernel_rfl
theorem sz168 : sizeT Tryz.prog 168 = some 1 := by kernel_rfl
theorem ag168 : isAggT Tryz.prog 168 = some false := by kernel_rfl
theorem zr168 : zeroT Tryz.prog 168 = some (.nilp) := by kernel_rfl
theorem by168 : bytesT Tryz.prog 168 = some 8 := by kernel_rfl
theorem sz169 : sizeT Tryz.prog 169 = some 4 := by kernel_rfl
theorem ag169 : isAggT Tryz.prog 169 = some true := by kernel_rfl
theorem by169 : bytesT Tryz.prog 169 = some 96 := by kernel_rfl
theorem fd169_0 : fieldT Tryz.prog 169 0 = some (0, 96) := by kernel_rfl
theorem sz170 : sizeT Tryz.prog 170 = some 4 := by kernel_rfl
theorem ag170 : isAggT Tryz.prog 170 = some true := by kernel_rfl
theorem by170 : bytesT Tryz.prog 170 = some 96 := by kernel_rfl
theorem fd170_0 : fieldT Tryz.prog 170 0 = some (0, 96) := by kernel_rfl
theorem sz171 : sizeT Tryz.prog 171 = some 1 := by kernel_rfl
theorem ag171 : isAggT Tryz.prog 171 = some false := by kernel_rfl
theorem zr171 : zeroT Tryz.prog 171 = some (.niln) := by kernel_rfl
theorem by171 : bytesT Tryz.prog 171 = some 8 := by kernel_rfl
theorem sz172 : sizeT Tryz.prog 172 = some 1 := by kernel_rfl
theorem ag172 : isAggT Tryz.prog 172 = some false := by kernel_rfl
theorem zr172 : zeroT Tryz.prog 172 = some (.niln) := by kernel_rfl
theorem by172 : bytesT Tryz.prog 172 = some 8 := by kernel_rfl
theorem un173 : Tryz.prog.underlying 173 = some (.slice 5) := by kernel_rfl
theorem sz173 : sizeT Tryz.prog 173 = some 1 := by kernel_rfl
theorem ag173 : isAggT Tryz.prog 173 = some false := by kernel_rfl
theorem zr173 : zeroT Tryz.prog 173 = some (.sl true []) := by kernel_rfl
theorem by173 : bytesT Tryz.prog 173 = some 24 := by kernel_rfl
theorem el173 : elemT Tryz.prog 173 = some 5 := by kernel_rfl
theorem sz174 : sizeT Tryz.prog 174 = some 1 := by kernel_rfl
theorem ag174 : isAggT Tryz.prog 174 = some false := by kernel_rfl
theorem zr174 : zeroT Tryz.prog 174 = some (.niln) := by kernel_rfl
theorem by174 : bytesT Tryz.prog 174 = some 8 := by kernel_rfl
theorem sz175 : sizeT Tryz.prog 175 = some 1 := by kernel_rfl
theorem ag175 : isAggT Tryz.prog 175 = some false := by kernel_rfl
theorem zr175 : zeroT Tryz.prog 175 = some (.niln) := by kernel_rfl
theorem by175 : bytesT Tryz.prog 175 = some 8 := by kernel_rfl
theorem sz177 : sizeT Tryz.prog 177 = some 1 := by kernel_rfl
theorem ag177 : isAggT Tryz.prog 177 = some false := by kernel_rfl
theorem zr177 : zeroT Tryz.prog 177 = some (.niln) := by kernel_rfl
theorem by177 : bytesT Tryz.prog 177 = some 8 := by kernel_rfl
theorem sz178 : sizeT Tryz.prog 178 = some 1 := by kernel_rfl
theorem ag178 : isAggT Tryz.prog 178 = some false := by kernel_rfl
theorem zr178 : zeroT Tryz.prog 178 = some (.niln) := by kernel_rfl
theorem by178 : bytesT Tryz.prog 178 = some 8 := by kernel_rfl
theorem sz180 : sizeT Tryz.prog 180 = some 1 := by kernel_rfl
theorem ag180 : isAggT Tryz.prog 180 = some false := by kernel_rfl
theorem zr180 : zeroT Tryz.prog 180 = some (.niln) := by kernel_rfl
theorem by180 : bytesT Tryz.prog 180 = some 8 := by kernel_rfl
theorem sz181 : sizeT Tryz.prog 181 = some 1 := by kernel_rfl
theorem ag181 : isAggT Tryz.prog 181 = some false := by kernel_rfl
theorem zr181 : zeroT Tryz.prog 181 = some (.niln) := by kernel_rfl
theorem by181 : bytesT Tryz.prog 181 = some 8 := by kernel_rfl
theorem sz182 : sizeT Tryz.prog 182 = some 1 := by kernel_rfl
theorem ag182 : isAggT Tryz.prog 182 = some false := by kernel_rfl
theorem zr182 : zeroT Tryz.prog 182 = some (.niln) := by kernel_rfl
theorem by182 : bytesT Tryz.prog 182 = some 8 := by kernel_rfl
theorem sz183 : sizeT Tryz.prog 183 = some 1 := by kernel_rfl
theorem ag183 : isAggT Tryz.prog 183 = some false := by kernel_rfl
theorem zr183 : zeroT Tryz.prog 183 = some (.niln) := by kernel_rfl
theorem by183 : bytesT Tryz.prog 183 = some 8 := by kernel_rfl
theorem un184 : Tryz.prog.underlying 184 = some (.pointer 77) := by kernel_rfl
theorem sz184 : sizeT Tryz.prog 184 = some 1 := by kernel_rfl
theorem ag184 : isAggT Tryz.prog 184 = some false := by kernel_rfl
theorem zr184 : zeroT Tryz.prog 184 = some (.nilp) := by kernel_rfl
theorem by184 : bytesT Tryz.prog 184 = some 8 := by kernel_rfl
theorem sz185 : sizeT Tryz.prog 185 = some 1 := by kernel_rfl
theorem ag185 : isAggT Tryz.prog 185 = some false := by kernel_rfl
theorem zr185 : zeroT Tryz.prog 185 = some (.niln) := by kernel_rfl
theorem by185 : bytesT Tryz.prog 185 = some 8 := by kernel_rfl
theorem un186 : Tryz.prog.underlying 186 = some (.pointer 21) := by kernel_rfl
theorem sz186 : sizeT Tryz.prog 186 = some 1 := by kernel_rfl
theorem ag186 : isAggT Tryz.prog 186 = some false := by kernel_rfl
theorem zr186 : zeroT Tryz.prog 186 = some (.nilp) := by kernel_rfl
theorem by186 : bytesT Tryz.prog 186 = some 8 := by kernel_rfl
theorem sz187 : sizeT Tryz.prog 187 = some 1 := by kernel_rfl
theorem ag187 : isAggT Tryz.prog 187 = some false := by kernel_rfl
theorem zr187 : zeroT Tryz.prog 187 = some (.niln) := by kernel_rfl
theorem by187 : bytesT Tryz.prog 187 = some 8 := by kernel_rfl
theorem sz189 : sizeT Tryz.prog 189 = some 1 := by kernel_rfl
theorem ag189 : isAggT Tryz.prog 189 = some false := by kernel_rfl
theorem zr189 : zeroT Tryz.prog 189 = some (.niln) := by kernel_rfl
theorem by189 : bytesT Tryz.prog 189 = some 8 := by kernel_rfl
theorem sz190 : sizeT Tryz.prog 190 = some 1 := by kernel_rfl
theorem ag190 : isAggT Tryz.prog 190 = some false := by kernel_rfl
theorem zr190 : zeroT Tryz.prog 190 = some (.niln) := by kernel_rfl
theorem by190 : bytesT Tryz.prog 190 = some 8 := by kernel_rfl
theorem un191 : Tryz.prog.underlying 191 = some (.slice 193) := by kernel_rfl
theorem sz191 : sizeT Tryz.prog 191 = some 1 := by kernel_rfl
theorem ag191 : isAggT Tryz.prog 191 = some false := by kernel_rfl
theorem zr191 : zeroT Tryz.prog 191 = some (.sl true []) := by kernel_rfl
theorem by191 : bytesT Tryz.prog 191 = some 24 := by kernel_rfl
theorem el191 : elemT Tryz.prog 191 = some 193 := by kernel_rfl
theorem sz192 : sizeT Tryz.prog 192 = some 1 := by kernel_rfl
theorem ag192 : isAggT Tryz.prog 192 = some false := by kernel_rfl
theorem zr192 : zeroT Tryz.prog 192 = some (.niln) := by kernel_rfl
theorem by192 : bytesT Tryz.prog 192 = some 8 := by kernel_rfl
theorem un193 : Tryz.prog.underlying 193 = some (.array 2 3) := by kernel_rfl
theorem sz193 : sizeT Tryz.prog 193 = some 2 := by kernel_rfl
theorem ag193 : isAggT Tryz.prog 193 = some true := by kernel_rfl
theorem zr193 : zeroT Tryz.prog 193 = some (.agg [.int .i64 0, .int .i64 0]) := by kernel_rfl
theorem by193 : bytesT Tryz.prog 193 = some 16 := by kernel_rfl
theorem bd193 (ps : List (Nat × D)) : buildD Tryz.prog 193 ps = (fillD (fun i => some (i * 1, 1)) (D.cells (.agg [.int .i64 0, .int .i64 0])) ps).map .agg := by kernel_rfl
theorem sz194 : sizeT Tryz.prog 194 = some 1 := by kernel_rfl
theorem ag194 : isAggT Tryz.prog 194 = some false := by kernel_rfl
theorem zr194 : zeroT Tryz.prog 194 = some (.niln) := by kernel_rfl
theorem by194 : bytesT Tryz.prog 194 = some 8 := by kernel_rfl
theorem sz195 : sizeT Tryz.prog 195 = some 1 := by kernel_rfl
theorem ag195 : isAggT Tryz.prog 195 = some false := by kernel_rfl
theorem zr195 : zeroT Tryz.prog 195 = some (.niln) := by kernel_rfl
theorem by195 : bytesT Tryz.prog 195 = some 8 := by kernel_rfl
theorem sz196 : sizeT Tryz.prog 196 = some 1 := by kernel_rfl
theorem ag196 : isAggT Tryz.prog 196 = some false := by kernel_rfl
theorem zr196 : zeroT Tryz.prog 196 = some (.niln) := by kernel_rfl
theorem by196 : bytesT Tryz.prog 196 = some 8 := by kernel_rfl
theorem un197 : Tryz.prog.underlying 197 = some (.map 199 3) := by kernel_rfl
theorem sz197 : sizeT Tryz.prog 197 = some 1 := by kernel_rfl
theorem ag197 : isAggT Tryz.prog 197 = some false := by kernel_rfl
theorem zr197 : zeroT Tryz.prog 197 = some (.nilm) := by kernel_rfl
theorem by197 : bytesT Tryz.prog 197 = some 8 := by kernel_rfl
theorem un198 : Tryz.prog.underlying 198 = some (.array 17 3) := by kernel_rfl
theorem sz198 : sizeT Tryz.prog 198 = some 17 := by kernel_rfl
theorem ag198 : isAggT Tryz.prog 198 = some true := by kernel_rfl
theorem zr198 : zeroT Tryz.prog 198 = some (.agg [.int .i64 0, .int .i64 0, .int .i64 0, .int .i64 0, .int .i64 0, .int .i64 0, .int .i64 0, .int .i64 0, .int .i64 0, .int .i64 0, .int .i64 0, .int .i64 0, .int .i64 0, .int .i64 0, .int .i64 0, .int .i64 0, .int .i64 0]) := by kernel_rfl
theorem by198 : bytesT Tryz.prog 198 = some 136 := by kernel_rfl
theorem bd198 (ps : List (Nat × D)) : buildD Tryz.prog 198 ps = (fillD (fun i => some (i * 1, 1)) (D.cells (.agg [.int .i64 0, .int .i64 0, .int .i64 0, .int .i64 0, .int .i64 0, .int .i64 0, .int .i64 0, .int .i64 0, .int .i64 0, .int .i64 0, .int .i64 0, .int .i64 0, .int .i64 0, .int .i64 0, .int .i64 0, .int .i64 0, .int .i64 0])) ps).map .agg := by kernel_rfl
theorem un199 : Tryz.prog.underlying 199 = some (.array 17 3) := by kernel_rfl
theorem sz199 : sizeT Tryz.prog 199 = some 17 := by kernel_rfl
theorem ag199 : isAggT Tryz.prog 199 = some true := by kernel_rfl
theorem zr199 : zeroT Tryz.prog 199 = some (.agg [.int .i64 0, .int .i64 0, .int .i64 0, .int .i64 0, .int .i64 0, .int .i64 0, .int .i64 0, .int .i64 0, .int .i64 0, .int .i64 0, .int .i64 0, .int .i64 0, .int .i64 0, .int .i64 0, .int .i64 0, .int .i64 0, .int .i64 0]) := by kernel_rfl
theorem by199 : bytesT Tryz.prog 199 = some 136 := by kernel_rfl
theorem bd199 (ps : List (Nat × D)) : buildD Tryz.prog 199 ps = (fillD (fun i => some (i * 1, 1)) (D.cells (.agg [.int .i64 0, .int .i64 0, .int .i64 0, .int .i64 0, .int .i64 0, .int .i64 0, .int .i64 0, .int .i64 0, .int .i64 0, .int .i64 0, .int .i64 0, .int .i64 0, .int .i64 0, .int .i64 0, .int .i64 0, .int .i64 0, .int .i64 0])) ps).map .agg := by kernel_rfl
theorem sz201 : sizeT Tryz.prog 201 = some 1 := by kernel_rfl
theorem ag201 : isAggT Tryz.prog 201 = some false := by kernel_rfl
theorem zr201 : zeroT Tryz.prog 201 = some (.niln) := by kernel_rfl
theorem by201 : bytesT Tryz.prog 201 = some 8 := by kernel_rfl
theorem sz202 : sizeT Tryz.prog 202 = some 1 := by kernel_rfl
theorem ag202 : isAggT Tryz.prog 202 = some false := by kernel_rfl
theorem zr202 : zeroT Tryz.prog 202 = some (.niln) := by kernel_rfl
theorem by202 : bytesT Tryz.prog 202 = some 8 := by kernel_rfl
theorem sz203 : sizeT Tryz.prog 203 = some 1 := by kernel_rfl
theorem ag203 : isAggT Tryz.prog 203 = some false := by kernel_rfl
theorem zr203 : zeroT Tryz.prog 203 = some (.niln) := by kernel_rfl
theorem by203 : bytesT Tryz.prog 203 = some 8 := by kernel_rfl
theorem sz204 : sizeT Tryz.prog 204 = some 1 := by kernel_rfl
theorem ag204 : isAggT Tryz.prog 204 = some false := by kernel_rfl
theorem zr204 : zeroT Tryz.prog 204 = some (.niln) := by kernel_rfl
theorem by204 : bytesT Tryz.prog 204 = some 8 := by kernel_rfl
theorem sz205 : sizeT Tryz.prog 205 = some 1 := by kernel_rfl
theorem ag205 : isAggT Tryz.prog 205 = some false := by kernel_rfl
theorem zr205 : zeroT Tryz.prog 205 = some (.niln) := by kernel_rfl
theorem by205 : bytesT Tryz.prog 205 = some 8 := by kernel_rfl
theorem sz206 : sizeT Tryz.prog 206 = some 1 := by kernel_rfl
theorem ag206 : isAggT Tryz.prog 206 = some false := by kernel_rfl
theorem zr206 : zeroT Tryz.prog 206 = some (.niln) := by kernel_rfl
theorem by206 : bytesT Tryz.prog 206 = some 8 := by kernel_rfl
theorem un207 : Tryz.prog.underlying 207 = some (.array 256 5) := by kernel_rfl
theorem sz207 : sizeT Tryz.prog 207 = some 256 := by kernel_rfl
theorem ag207 : isAggT Tryz.prog 207 = some true := by kernel_rfl
theorem zr207 : zeroT Tryz.prog 207 = some (.agg [.int .u8 0, .int .u8 0, .int .u8 0, .int .u8 0, .int .u8 0, .int .u8 0, .int .u8 0, .int .u8 0, .int .u8 0, .int .u8 0, .int .u8 0, .int .u8 0, .int .u8 0, .int .u8 0, .int .u8 0, .int .u8 0, .int .u8 0, .int .u8 0, .int .u8 0, .int .u8 0, .int .u8 0, .int .u8 0, .int .u8 0, .int .u8 0, .int .u8 0, .int .u8 0, .int .u8 0, .int .u8 0, .int .u8 0, .int .u8 0, .int .u8 0, .int .u8 0, .int .u8 0, .int .u8 0, .int .u8 0, .int .u8 0, .int .u8 0, .int .u8 0, .int .u8 0, .int .u8 0, .int .u8 0, .int .u8 0, .int .u8 0, .int .u8 0, .int .u8 0, .int .u8 0, .int .u8 0, .int .u8 0, .int .u8 0, .int .u8 0, .int .u8 0, .int .u8 0, .int .u8 0, .int .u8 0, .int .u8 0, .int .u8 0, .int .u8 0, .int .u8 0, .int .u8 0, .int .u8 0, .int .u8 0, .int .u8 0, .int .u8 0, .int .u8 0, .int .u8 0, .int .u8 0, .int .u8 0, .int .u8 0, .int .u8 0, .int .u8 0, .int .u8 0, .int .u8 0, .int .u8 0, .int .u8 0, .int .u8 0, .int .u8 0, .int .u8 0, .int .u8 0, .int .u8 0, .int .u8 0, .int .u8 0, .int .u8 0, .int .u8 0, .int .u8 0, .int .u8 0, .int .u8 0, .int .u8 0, .int .u8 0, .int .u8 0, .int .u8 0, .int .u8 0, .int .u8 0, .int .u8 0, .int .u8 0, .int .u8 0, .int .u8 0, .int .u8 0, .int .u8 0, .int .u8 0, .int .u8 0, .int .u8 0, .int .u8 0, .int .u8 0, .int .u8 0, .int .u8 0, .int .u8 0, .int .u8 0, .int .u8 0, .int .u8 0, .int .u8 0, .int .u8 0, .int .u8 0, .int .u8 0, .int .u8 0, .int .u8 0, .int .u8 0, .int .u8 0, .int .u8 0, .int .u8 0, .int .u8 0, .int .u8 0, .int .u8 0, .int .u8 0, .int .u8 0, .int .u8 0, .int .u8 0, .int .u8 0, .int .u8 0, .int .u8 0, .int .u8 0, .int .u8 0, .int .u8 0, .int .u8 0, .int .u8 0, .int .u8 0, .int .u8 0, .int .u8 0, .int .u8 0, .int .u8 0, .int .u8 0, .int .u8 0, .int .u8 0, .int .u8 0, .int .u8 0, .int .u8 0, .int .u8 0, .int .u8 0, .int .u8 0, .int .u8 0, .int .u8 0, .int .u8 0, .int .u8 0, .int .u8 0, .int .u8 0, .int .u8 0, .int .u8 0, .int .u8 0, .int .u8 0, .int .u8 0, .int .u8 0, .int .u8 0, .int .u8 0, .int .u8 0, .int .u8 0, .int .u8 0, .int .u8 0, .int .u8 0, .int .u8 0, .int .u8 0, .int .u8 0, .int .u8 0, .int .u8 0, .int .u8 0, .int .u8 0, .int .u8 0, .int .u8 0, .int .u8 0, .int .u8 0, .int .u8 0, .int .u8 0, .int .u8 0, .int .u8 0, .int .u8 0, .int .u8 0, .int .u8 0, .int .u8 0, .int .u8 0, .int .u8 0, .int .u8 0, .int .u8 0, .int .u8 0, .int .u8 0, .int .u8 0, .int .u8 0, .int .u8 0, .int .u8 0, .int .u8 0, .int .u8 0, .int .u8 0, .int .u8 0, .int .u8 0, .int .u8 0, .int .u8 0, .int .u8 0, .int .u8 0, .int .u8 0, .int .u8 0, .int .u8 0, .int .u8 0, .int .u8 0, .int .u8 0, .int .u8 0, .int .u8 0, .int .u8 0, .int .u8 0, .int .u8 0, .int .u8 0, .int .u8 0, .int .u8 0, .int .u8 0, .int .u8 0, .int .u8 0, .int .u8 0, .int .u8 0, .int .u8 0, .int .u8 0, .int .u8 0, .int .u8 0, .int .u8 0, .int .u8 0, .int .u8 0, .int .u8 0, .int .u8 0, .int .u8 0, .int .u8 0, .int .u8 0, .int .u8 0, .int .u8 0, .int .u8 0, .int .u8 0, .int .u8 0, .int .u8 0, .int .u8 0, .int .u8 0, .int .u8 0, .int .u8 0, .int .u8 0, .int .u8 0, .int .u8 0, .int .u8 0, .int .u8 0, .int .u8 0, .int .u8 0, .int .u8 0, .int .u8 0, .int .u8 0]) := by kernel_rfl
theorem by207 : bytesT Tryz.prog 207 = some 256 := by kernel_rfl
theorem sz208 : sizeT Tryz.prog 208 = some 2 := by kernel_rfl
theorem ag208 : isAggT Tryz.prog 208 = some true := by kernel_rfl
theorem zr208 : zeroT Tryz.prog 208 = some (.agg [.int .u8 0, .int .u8 0]) := by kernel_rfl
theorem by208 : bytesT Tryz.prog 208 = some 2 := by kernel_rfl
theorem fd208_0 : fieldT Tryz.prog 208 0 = some (0, 5) := by kernel_rfl
theorem fd208_1 : fieldT Tryz.prog 208 1 = some (1, 5) := by kernel_rfl
theorem bd208 (ps : List (Nat × D)) : buildD Tryz.prog 208 ps = (fillD (fun i => ([(0, 1), (1, 1)] : List (Nat × Nat))[i]?) (D.cells (.agg [.int .u8 0, .int .u8 0])) ps).map .agg := by kernel_rfl
theorem sz209 : sizeT Tryz.prog 209 = some 2 := by kernel_rfl
theorem ag209 : isAggT Tryz.prog 209 = some true := by kernel_rfl
theorem zr209 : zeroT Tryz.prog 209 = some (.agg [.int .u8 0, .int .u8 0]) := by kernel_rfl
theorem by209 : bytesT Tryz.prog 209 = some 2 := by kernel_rfl
theorem fd209_0 : fieldT Tryz.prog 209 0 = some (0, 5) := by kernel_rfl
theorem fd209_1 : fieldT Tryz.prog 209 1 = some (1, 5) := by kernel_rfl
theorem bd209 (ps : List (Nat × D)) : buildD Tryz.prog 209 ps = (fillD (fun i => ([(0, 1), (1, 1)] : List (Nat × Nat))[i]?) (D.cells (.agg [.int .u8 0, .int .u8 0])) ps).map .agg := by kernel_rfl
theorem un210 : Tryz.prog.underlying 210 = some (.array 16 209) := by kernel_rfl
theorem sz210 : sizeT Tryz.prog 210 = some 32 := by kernel_rfl
theorem ag210 : isAggT Tryz.prog 210 = some true := by kernel_rfl
theorem zr210 : zeroT Tryz.prog 210 = some (.agg [.int .u8 0, .int .u8 0, .int .u8 0, .int .u8 0, .int .u8 0, .int .u8 0, .int .u8 0, .int .u8 0, .int .u8 0, .int .u8 0, .int .u8 0, .int .u8 0, .int .u8 0, .int .u8 0, .int .u8 0, .int .u8 0, .int .u8 0, .int .u8 0, .int .u8 0, .int .u8 0, .int .u8 0, .int .u8 0, .int .u8 0, .int .u8 0, .int .u8 0, .int .u8 0, .int .u8 0, .int .u8 0, .int .u8 0, .int .u8 0, .int .u8 0, .int .u8 0]) := by kernel_rfl
theorem by210 : bytesT Tryz.prog 210 = some 32 := by kernel_rfl
theorem bd210 (ps : List (Nat × D)) : buildD Tryz.prog 210 ps = (fillD (fun i => some (i * 2, 2)) (D.cells (.agg [.int .u8 0, .int .u8 0, .int .u8 0, .int .u8 0, .int .u8 0, .int .u8 0, .int .u8 0, .int .u8 0, .int .u8 0, .int .u8 0, .int .u8 0, .int .u8 0, .int .u8 0, .int .u8 0, .int .u8 0, .int .u8 0, .int .u8 0, .int .u8 0, .int .u8 0, .int .u8 0, .int .u8 0, .int .u8 0, .int .u8 0, .int .u8 0, .int .u8 0, .int .u8 0, .int .u8 0, .int .u8 0, .int .u8 0, .int .u8 0, .int .u8 0, .int .u8 0])) ps).map .agg := by kernel_rfl
theorem sz211 : sizeT Tryz.prog 211 = some 1 := by kernel_rfl
theorem ag211 : isAggT Tryz.prog 211 = some false := by kernel_rfl
theorem zr211 : zeroT Tryz.prog 211 = some (.niln) := by kernel_rfl
theorem by211 : bytesT Tryz.prog 211 = some 8 := by kernel_rfl
theorem sz212 : sizeT Tryz.prog 212 = some 1 := by kernel_rfl
theorem ag212 : isAggT Tryz.prog 212 = some false := by kernel_rfl
theorem zr212 : zeroT Tryz.prog 212 = some (.niln) := by kernel_rfl
theorem by212 : bytesT Tryz.prog 212 = some 8 := by kernel_rfl
theorem un213 : Tryz.prog.underlying 213 = some (.int .i64) := by kernel_rfl
theorem sz213 : sizeT Tryz.prog 213 = some 1 := by kernel_rfl
theorem ag213 : isAggT Tryz.prog 213 = some false := by kernel_rfl
theorem zr213 : zeroT Tryz.prog 213 = some (.int .i64 0) := by kernel_rfl
theorem by213 : bytesT Tryz.prog 213 = some 8 := by kernel_rfl
theorem sz215 : sizeT Tryz.prog 215 = some 1 := by kernel_rfl
theorem ag215 : isAggT Tryz.prog 215 = some false := by kernel_rfl
theorem zr215 : zeroT Tryz.prog 215 = some (.niln) := by kernel_rfl
theorem by215 : bytesT Tryz.prog 215 = some 8 := by kernel_rfl
theorem sz216 : sizeT Tryz.prog 216 = some 1 := by kernel_rfl
theorem ag216 : isAggT Tryz.prog 216 = some false := by kernel_rfl
theorem zr216 : zeroT Tryz.prog 216 = some (.niln) := by kernel_rfl
theorem by216 : bytesT Tryz.prog 216 = some 8 := by kernel_rfl
theorem sz217 : sizeT Tryz.prog 217 = some 1 := by kernel_rfl
theorem ag217 : isAggT Tryz.prog 217 = some false := by kernel_rfl
theorem zr217 : zeroT Tryz.prog 217 = some (.niln) := by kernel_rfl
theorem by217 : bytesT Tryz.prog 217 = some 8 := by kernel_rfl
theorem sz218 : sizeT Tryz.prog 218 = some 1 := by kernel_rfl
theorem ag218 : isAggT Tryz.prog 218 = some false := by kernel_rfl
theorem zr218 : zeroT Tryz.prog 218 = some (.niln) := by kernel_rfl
theorem by218 : bytesT Tryz.prog 218 = some 8 := by kernel_rfl
theorem sz219 : sizeT Tryz.prog 219 = some 1 := by kernel_rfl
theorem ag219 : isAggT Tryz.prog 219 = some false := by kernel_rfl
theorem zr219 : zeroT Tryz.prog 219 = some (.niln) := by kernel_rfl
theorem by219 : bytesT Tryz.prog 219 = some 8 := by kernel_rfl
theorem sz220 : sizeT Tryz.prog 220 = some 1 := by kernel_rfl
theorem ag220 : isAggT Tryz.prog 220 = some false := by kernel_rfl
theorem zr220 : zeroT Tryz.prog 220 = some (.niln) := by kernel_rfl
theorem by220 : bytesT Tryz.prog 220 = some 8 := by kernel_rfl
theorem sz221 : sizeT Tryz.prog 221 = some 1 := by kernel_rfl
theorem ag221 : isAggT Tryz.prog 221 = some false := by kernel_rfl
theorem zr221 : zeroT Tryz.prog 221 = some (.niln) := by kernel_rfl
theorem by221 : bytesT Tryz.prog 221 = some 8 := by kernel_rfl
theorem un222 : Tryz.prog.underlying 222 = some (.int .u64) := by kernel_rfl
theorem sz222 : sizeT Tryz.prog 222 = some 1 := by kernel_rfl
theorem ag222 : isAggT Tryz.prog 222 = some false := by kernel_rfl
theorem zr222 : zeroT Tryz.prog 222 = some (.int .u64 0) := by kernel_rfl
theorem by222 : bytesT Tryz.prog 222 = some 8 := by kernel_rfl
theorem sz223 : sizeT Tryz.prog 223 = some 1 := by kernel_rfl
theorem ag223 : isAggT Tryz.prog 223 = some false := by kernel_rfl
theorem zr223 : zeroT Tryz.prog 223 = some (.niln) := by kernel_rfl
theorem by223 : bytesT Tryz.prog 223 = some 8 := by kernel_rfl
theorem un224 : Tryz.prog.underlying 224 = some (.int .u64) := by kernel_rfl
theorem sz224 : sizeT Tryz.prog 224 = some 1 := by kernel_rfl
theorem ag224 : isAggT Tryz.prog 224 = some false := by kernel_rfl
theorem zr224 : zeroT Tryz.prog 224 = some (.int .u64 0) := by kernel_rfl
theorem by224 : bytesT Tryz.prog 224 = some 8 := by kernel_rfl
theorem sz225 : sizeT Tryz.prog 225 = some 1 := by kernel_rfl
theorem ag225 : isAggT Tryz.prog 225 = some false := by kernel_rfl
theorem zr225 : zeroT Tryz.prog 225 = some (.niln) := by kernel_rfl
theorem by225 : bytesT Tryz.prog 225 = some 8 := by kernel_rfl
theorem sz226 : sizeT Tryz.prog 226 = some 1 := by kernel_rfl
theorem ag226 : isAggT Tryz.prog 226 = some false := by kernel_rfl
theorem zr226 : zeroT Tryz.prog 226 = some (.niln) := by kernel_rfl
theorem by226 : bytesT Tryz.prog 226 = some 8 := by kernel_rfl
theorem sz227 : sizeT Tryz.prog 227 = some 1 := by kernel_rfl
theorem ag227 : isAggT Tryz.prog 227 = some false := by kernel_rfl
theorem zr227 : zeroT Tryz.prog 227 = some (.niln) := by kernel_rfl
theorem by227 : bytesT Tryz.prog 227 = some 8 := by kernel_rfl
theorem sz228 : sizeT Tryz.prog 228 = some 1 := by kernel_rfl
theorem ag228 : isAggT Tryz.prog 228 = some false := by kernel_rfl
theorem zr228 : zeroT Tryz.prog 228 = some (.niln) := by kernel_rfl
theorem by228 : bytesT Tryz.prog 228 = some 8 := by kernel_rfl
theorem sz229 : sizeT Tryz.prog 229 = some 1 := by kernel_rfl
theorem ag229 : isAggT Tryz.prog 229 = some false := by kernel_rfl
theorem zr229 : zeroT Tryz.prog 229 = some (.niln) := by kernel_rfl
theorem by229 : bytesT Tryz.prog 229 = some 8 := by kernel_rfl
theorem un230 : Tryz.prog.underlying 230 = some (.pointer 224) := by kernel_rfl
theorem sz230 : sizeT Tryz.prog 230 = some 1 := by kernel_rfl
theorem ag230 : isAggT Tryz.prog 230 = some false := by kernel_rfl
theorem zr230 : zeroT Tryz.prog 230 = some (.nilp) := by kernel_rfl
theorem by230 : bytesT Tryz.prog 230 = some 8 := by kernel_rfl
theorem sz231 : sizeT Tryz.prog 231 = some 1 := by kernel_rfl
theorem ag231 : isAggT Tryz.prog 231 = some false := by kernel_rfl
theorem zr231 : zeroT Tryz.prog 231 = some (.niln) := by kernel_rfl
theorem by231 : bytesT Tryz.prog 231 = some 8 := by kernel_rfl
theorem sz232 : sizeT Tryz.prog 232 = some 1 := by kernel_rfl
theorem ag232 : isAggT Tryz.prog 232 = some false := by kernel_rfl
theorem zr232 : zeroT Tryz.prog 232 = some (.niln) := by kernel_rfl
theorem by232 : bytesT Tryz.prog 232 = some 8 := by kernel_rfl
theorem un235 : Tryz.prog.underlying 235 = some (.array 0 16) := by kernel_rfl
theorem ag235 : isAggT Tryz.prog 235 = some true := by kernel_rfl
theorem zr235 : zeroT Tryz.prog 235 = some (.agg []) := by kernel_rfl
theorem by235 : bytesT Tryz.prog 235 = some 0 := by kernel_rfl
theorem bd235 (ps : List (Nat × D)) : buildD Tryz.prog 235 ps = (fillD (fun i => some (i * 1, 1)) (D.cells (.agg [])) ps).map .agg := by kernel_rfl
theorem sz240 : sizeT Tryz.prog 240 = some 1 := by kernel_rfl
theorem ag240 : isAggT Tryz.prog 240 = some false := by kernel_rfl
theorem zr240 : zeroT Tryz.prog 240 = some (.niln) := by kernel_rfl
theorem by240 : bytesT Tryz.prog 240 = some 8 := by kernel_rfl
theorem un241 : Tryz.prog.underlying 241 = some (.pointer 5) := by kernel_rfl
theorem sz241 : sizeT Tryz.prog 241 = some 1 := by kernel_rfl
theorem ag241 : isAggT Tryz.prog 241 = some false := by kernel_rfl
theorem zr241 : zeroT Tryz.prog 241 = some (.nilp) := by kernel_rfl
theorem by241 : bytesT Tryz.prog 241 = some 8 := by kernel_rfl
theorem bo2 : bodied Tryz.prog 2 = true := by kernel_rfl
theorem bo3 : bodied Tryz.prog 3 = true := by kernel_rfl
theorem bo4 : bodied Tryz.prog 4 = true := by kernel_rfl
theorem bo5 : bodied Tryz.prog 5 = true := by kernel_rfl
theorem bo6 : bodied Tryz.prog 6 = true := by kernel_rfl
theorem bo7 : bodied Tryz.prog 7 = true := by kernel_rfl
theorem bo8 : bodied Tryz.prog 8 = true := by kernel_rfl
theorem bo9 : bodied Tryz.prog 9 = true := by kernel_rfl
theorem bo10 : bodied Tryz.prog 10 = true := by kernel_rfl
theorem bo11 : bodied Tryz.prog 11 = true := by kernel_rfl
theorem bo12 : bodied Tryz.prog 12 = true := by kernel_rfl
theorem bo13 : bodied Tryz.prog 13 = true := by kernel_rfl
theorem bo14 : bodied Tryz.prog 14 = true := by kernel_rfl
theorem bo15 : bodied Tryz.prog 15 = true := by kernel_rfl
theorem bo16 : bodied Tryz.prog 16 = true := by kernel_rfl
theorem bo17 : bodied Tryz.prog 17 = true := by kernel_rfl
theorem bo18 : bodied Tryz.prog 18 = true := by kernel_rfl
theorem bo19 : bodied Tryz.prog 19 = true := by kernel_rfl
theorem bo20 : bodied Tryz.prog 20 = true := by kernel_rfl
theorem bo21 : bodied Tryz.prog 21 = true := by kernel_rfl
theorem bo22 : bodied Tryz.prog 22 = true := by kernel_rfl
theorem bo23 : bodied Tryz.prog 23 = true := by kernel_rfl
theorem bo24 : bodied Tryz.prog 24 = true := by kernel_rfl
theorem bo25 : bodied Tryz.prog 25 = true := by kernel_rfl
theorem bo26 : bodied Tryz.prog 26 = true := by kernel_rfl
theorem bo27 : bodied Tryz.prog 27 = true := by kernel_rfl
theorem bo28 : bodied Tryz.prog 28 = true := by kernel_rfl
theorem bo29 : bodied Tryz.prog 29 = true := by kernel_rfl
theorem bo30 : bodied Tryz.prog 30 = true := by kernel_rfl
theorem bo31 : bodied Tryz.prog 31 = true := by kernel_rfl
theorem bo32 : bodied Tryz.prog 32 = true := by kernel_rfl
theorem bo33 : bodied Tryz.prog 33 = true := by kernel_rfl
theorem bo34 : bodied Tryz.prog 34 = true := by kernel_rfl
theorem bo35 : bodied Tryz.prog 35 = true := by kernel_rfl
theorem bo36 : bodied Tryz.prog 36 = true := by kernel_rfl
theorem bo37 : bodied Tryz.prog 37 = true := by kernel_rfl
theorem bo38 : bodied Tryz.prog 38 = true := by kernel_rfl
theorem bo39 : bodied Tryz.prog 39 = true := by kernel_rfl
theorem bo40 : bodied Tryz.prog 40 = true := by kernel_rfl
theorem bo41 : bodied Tryz.prog 41 = true := by kernel_rfl
theorem bo42 : bodied Tryz.prog 42 = true := by kernel_rfl
theorem bo43 : bodied Tryz.prog 43 = true := by kernel_rfl
theorem bo44 : bodied Tryz.prog 44 = true := by kernel_rfl
theorem bo45 : bodied Tryz.prog 45 = true := by kernel_rfl
theorem bo46 : bodied Tryz.prog 46 = true := by kernel_rfl
theorem bo47 : bodied Tryz.prog 47 = true := by kernel_rfl
theorem bo48 : bodied Tryz.prog 48 = true := by kernel_rfl
theorem bo49 : bodied Tryz.prog 49 = true := by kernel_rfl
theorem bo50 : bodied Tryz.prog 50 = true := by kernel_rfl
theorem bo51 : bodied Tryz.prog 51 = true := by kernel_rfl
theorem bo52 : bodied Tryz.prog 52 = true := by kernel_rfl
theorem bo53 : bodied Tryz.prog 53 = true := by kernel_rfl
theorem bo54 : bodied Tryz.prog 54 = true := by kernel_rfl
theorem bo55 : bodied Tryz.prog 55 = true := by kernel_rfl
theorem bo56 : bodied Tryz.prog 56 = true := by kernel_rfl
theorem bo57 : bodied Tryz.prog 57 = true := by kernel_rfl
theorem bo58 : bodied Tryz.prog 58 = true := by kernel_rfl
theorem bo59 : bodied Tryz.prog 59 = true := by kernel_rfl
theorem bo60 : bodied Tryz.prog 60 = true := by kernel_rfl
theorem bo61 : bodied Tryz.prog 61 = true := by kernel_rfl
theorem bo62 : bodied Tryz.prog 62 = true := by kernel_rfl
theorem bo65 : bodied Tryz.prog 65 = true := by kernel_rfl
theorem bo66 : bodied Tryz.prog 66 = true := by kernel_rfl
theorem bo67 : bodied Tryz.prog 67 = true := by kernel_rfl
theorem bo68 : bodied Tryz.prog 68 = true := by kernel_rfl
theorem bo69 : bodied Tryz.prog 69 = true := by kernel_rfl
theorem bo70 : bodied Tryz.prog 70 = true := by kernel_rfl
theorem bo71 : bodied Tryz.prog 71 = true := by kernel_rfl
theorem bo72 : bodied Tryz.prog 72 = true := by kernel_rfl
theorem bo74 : bodied Tryz.prog 74 = true := by kernel_rfl
theorem bo75 : bodied Tryz.prog 75 = true := by kernel_rfl
theorem bo76 : bodied Tryz.prog 76 = true := by kernel_rfl
theorem bo77 : bodied Tryz.prog 77 = true := by kernel_rfl
theorem bo78 : bodied Tryz.prog 78 = true := by kernel_rfl
theorem bo79 : bodied Tryz.prog 79 = true := by kernel_rfl
theorem bo80 : bodied Tryz.prog 80 = true := by kernel_rfl
theorem bo82 : bodied Tryz.prog 82 = true := by kernel_rfl
theorem bo83 : bodied Tryz.prog 83 = true := by kernel_rfl
theorem bo84 : bodied Tryz.prog 84 = true := by kernel_rfl
theorem bo85 : bodied Tryz.prog 85 = true := by kernel_rfl
theorem bo86 : bodied Tryz.prog 86 = true := by kernel_rfl
theorem bo87 : bodied Tryz.prog 87 = true := by kernel_rfl
theorem bo88 : bodied Tryz.prog 88 = true := by kernel_rfl
theorem bo89 : bodied Tryz.prog 89 = true := by kernel_rfl
theorem bo90 : bodied Tryz.prog 90 = true := by kernel_rfl
theorem bo91 : bodied Tryz.prog 91 = true := by kernel_rfl
theorem bo92 : bodied Tryz.prog 92 = true := by kernel_rfl
theorem bo93 : bodied Tryz.prog 93 = true := by kernel_rfl
theorem bo94 : bodied Tryz.prog 94 = true := by kernel_rfl
theorem bo95 : bodied Tryz.prog 95 = true := by kernel_rfl
theorem bo96 : bodied Tryz.prog 96 = true := by kernel_rfl
theorem bo97 : bodied Tryz.prog 97 = true := by kernel_rfl
theorem bo98 : bodied Tryz.prog 98 = true := by kernel_rfl
theorem bo99 : bodied Tryz.prog 99 = true := by kernel_rfl
theorem bo100 : bodied Tryz.prog 100 = true := by kernel_rfl
theorem bo102 : bodied Tryz.prog 102 = true := by kernel_rfl
theorem bo103 : bodied Tryz.prog 103 = true := by kernel_rfl
theorem bo104 : bodied Tryz.prog 104 = true := by kernel_rfl
theorem bo105 : bodied Tryz.prog 105 = true := by kernel_rfl
theorem bo106 : bodied Tryz.prog 106 = true := by kernel_rfl
theorem bo107 : bodied Tryz.prog 107 = true := by kernel_rfl
theorem bo108 : bodied Tryz.prog 108 = true := by kernel_rfl
theorem bo109 : bodied Tryz.prog 109 = true := by kernel_rfl
theorem bo110 : bodied Tryz.prog 110 = true := by kernel_rfl
theorem bo111 : bodied Tryz.prog 111 = true := by kernel_rfl
theorem bo112 : bodied Tryz.prog 112 = true := by kernel_rfl
theorem bo113 : bodied Tryz.prog 113 = true := by kernel_rfl
theorem bo115 : bodied Tryz.prog 115 = true := by kernel_rfl
theorem bo117 : bodied Tryz.prog 117 = true := by kernel_rfl
theorem bo118 : bodied Tryz.prog 118 = true := by kernel_rfl
theorem bo119 : bodied Tryz.prog 119 = true := by kernel_rfl
theorem bo120 : bodied Tryz.prog 120 = true := by kernel_rfl
theorem bo121 : bodied Tryz.prog 121 = true := by kernel_rfl
theorem bo122 : bodied Tryz.prog 122 = true := by kernel_rfl
theorem bo127 : bodied Tryz.prog 127 = true := by kernel_rfl
theorem bo130 : bodied Tryz.prog 130 = true := by kernel_rfl
theorem bo131 : bodied Tryz.prog 131 = true := by kernel_rfl
theorem bo132 : bodied Tryz.prog 132 = true := by kernel_rfl
theorem bo133 : bodied Tryz.prog 133 = true := by kernel_rfl
theorem bo134 : bodied Tryz.prog 134 = true := by kernel_rfl
theorem bo135 : bodied Tryz.prog 135 = true := by kernel_rfl
theorem bo137 : bodied Tryz.prog 137 = true := by kernel_rfl
theorem bo138 : bodied Tryz.prog 138 = true := by kernel_rfl
theorem bo139 : bodied Tryz.prog 139 = true := by kernel_rfl
theorem bo140 : bodied Tryz.prog 140 = true := by kernel_rfl
theorem bo148 : bodied Tryz.prog 148 = true := by kernel_rfl
theorem bo149 : bodied Tryz.prog 149 = true := by kernel_rfl
theorem bo150 : bodied Tryz.prog 150 = true := by kernel_rfl
theorem bo151 : bodied Tryz.prog 151 = true := by kernel_rfl
theorem bo152 : bodied Tryz.prog 152 = true := by kernel_rfl
theorem bo153 : bodied Tryz.prog 153 = true := by kernel_rfl
theorem bo154 : bodied Tryz.prog 154 = true := by kernel_rfl
theorem bo155 : bodied Tryz.prog 155 = true := by kernel_rfl
theorem bo156 : bodied Tryz.prog 156 = true := by kernel_rfl
theorem bo157 : bodied Tryz.prog 157 = true := by kernel_rfl
theorem bo158 : bodied Tryz.prog 158 = true := by kernel_rfl
theorem bo159 : bodied Tryz.prog 159 = true := by kernel_rfl
theorem bo160 : bodied Tryz.prog 160 = true := by kernel_rfl
theorem bo161 : bodied Tryz.prog 161 = true := by kernel_rfl
theorem bo162 : bodied Tryz.prog 162 = true := by kernel_rfl
theorem bo163 : bodied Tryz.prog 163 = true := by kernel_rfl
theorem bo164 : bodied Tryz.prog 164 = true := by kernel_rfl
theorem bo165 : bodied Tryz.prog 165 = true := by kernel_rfl
theorem bo166 : bodied Tryz.prog 166 = true := by kernel_rfl
theorem bo167 : bodied Tryz.prog 167 = true := by kernel_rfl
theorem bo168 : bodied Tryz.prog 168 = true := by kernel_rfl
theorem bo169 : bodied Tryz.prog 169 = true := by kernel_rfl
theorem bo170 : bodied Tryz.prog 170 = true := by kernel_rfl
theorem bo171 : bodied Tryz.prog 171 = true := by kernel_rfl
theorem bo172 : bodied Tryz.prog 172 = true := by kernel_rfl
theorem bo173 : bodied Tryz.prog 173 = true := by kernel_rfl
theorem bo194 : bodied Tryz.prog 194 = true := by kernel_rfl
attribute [go_sem] sz1 ag1 zr1 by1 un2 sz2 ag2 zr2 by2 un3 sz3 ag3 zr3 by3 un4 sz4 ag4 zr4 by4 un5 sz5 ag5 zr5 by5 un9 sz9 ag9 zr9 by9 sz20 ag20 zr20 by20 un21 sz21 ag21 zr21 by21 un22 sz22
attribute [go_sem] ag22 zr22 by22 el22 un23 sz23 ag23 zr23 by23 el23 sz24 ag24 by24 fd24_0 fd24_1 sz25 ag25 by25 fd25_0 fd25_1 un26 sz26 ag26 zr26 by26 el26 sz27 ag27 zr27 by27 sz28 ag28 zr28 by28 sz29 ag29 zr29 by29 fd29_0 fd29_1
attribute [go_sem] fd29_2 bd29 sz30 ag30 zr30 by30 fd30_0 fd30_1 fd30_2 bd30 sz31 ag31 zr31 by31 sz32 ag32 zr32 by32 sz33 ag33 zr33 by33 sz34 ag34 zr34 by34 un35 sz35 ag35 zr35 by35 el35 un36 sz36 ag36 zr36 by36 el36 sz37 ag37
attribute [go_sem] zr37 by37 un38 sz38 ag38 zr38 by38 sz39 ag39 zr39 by39 un40 sz40 ag40 zr40 by40 sz42 ag42 zr42 by42 sz44 ag44 zr44 by44 sz45 ag45 zr45 by45 sz46 ag46 zr46 by46 sz47 ag47 zr47 by47 sz49 ag49 zr49 by49
attribute [go_sem] un50 sz50 ag50 zr50 by50 el50 sz51 ag51 zr51 by51 sz52 ag52 zr52 by52 un53 sz53 ag53 zr53 by53 sz54 ag54 zr54 by54 fd54_0 fd54_1 fd54_2 bd54 sz55 ag55 zr55 by55 fd55_0 fd55_1 fd55_2 bd55 sz56 ag56 by56 fd56_0 fd56_1
attribute [go_sem] fd56_2 sz57 ag57 by57 fd57_0 fd57_1 fd57_2 sz58 ag58 zr58 by58 sz59 ag59 zr59 by59 sz60 ag60 zr60 by60 sz61 ag61 zr61 by61 sz62 ag62 zr62 by62 sz64 ag64 zr64 by64 sz66 ag66 zr66 by66 un67 sz67 ag67 zr67 by67
attribute [go_sem] bd67 sz68 ag68 zr68 by68 sz69 ag69 zr69 by69 ag70 zr70 by70 ag71 zr71 by71 ag72 zr72 by72 un73 sz73 ag73 zr73 by73 sz74 ag74 zr74 by74 fd74_0 fd74_1 bd74 sz75 ag75 zr75 by75 fd75_0 fd75_1 bd75 sz76 ag76 zr76
attribute [go_sem] by76 fd76_0 fd76_1 bd76 sz77 ag77 zr77 by77 fd77_0 fd77_1 bd77 sz78 ag78 zr78 by78 fd78_0 fd78_1 bd78 sz79 ag79 zr79 by79 fd79_0 fd79_1 bd79 sz80 ag80 zr80 by80 fd80_0 fd80_1 fd80_2 bd80 sz81 ag81 zr81 by81 fd81_0 fd81_1 fd81_2
attribute [go_sem] bd81 ag82 zr82 by82 sz83 ag83 zr83 by83 fd83_0 fd83_1 fd83_2 bd83 sz84 ag84 zr84 by84 fd84_0 fd84_1 fd84_2 bd84 sz85 ag85 by85 fd85_0 fd85_1 fd85_2 fd85_3 fd85_4 sz86 ag86 by86 fd86_0 fd86_1 fd86_2 fd86_3 fd86_4 sz87 ag87 zr87 by87
attribute [go_sem] sz88 ag88 zr88 by88 sz89 ag89 zr89 by89 sz90 ag90 zr90 by90 sz91 ag91 zr91 by91 sz92 ag92 zr92 by92 sz93 ag93 zr93 by93 un94 sz94 ag94 zr94 by94 el94 sz95 ag95 by95 fd95_0 fd95_1 fd95_2 fd95_3 sz96 ag96 by96
attribute [go_sem] fd96_0 fd96_1 fd96_2 fd96_3 sz98 ag98 zr98 by98 un99 sz99 ag99 zr99 by99 el99 sz100 ag100 zr100 by100 sz101 ag101 zr101 by101 un102 sz102 ag102 zr102 by102 el102 sz103 ag103 zr103 by103 sz104 ag104 zr104 by104 sz105 ag105 zr105 by105
attribute [go_sem] sz106 ag106 zr106 by106 sz107 ag107 zr107 by107 sz108 ag108 zr108 by108 sz109 ag109 zr109 by109 un110 sz110 ag110 zr110 by110 el110 sz111 ag111 zr111 by111 sz113 ag113 zr113 by113 sz114 ag114 zr114 by114 sz115 ag115 zr115 by115 sz116 ag116
attribute [go_sem] zr116 by116 sz117 ag117 zr117 by117 sz118 ag118 zr118 by118 un119 sz119 ag119 zr119 by119 sz120 ag120 zr120 by120 un121 sz121 ag121 zr121 by121 sz122 ag122 zr122 by122 un123 sz123 ag123 zr123 by123 sz124 ag124 zr124 by124 sz125 ag125 zr125
attribute [go_sem] by125 sz126 ag126 zr126 by126 un127 sz127 ag127 zr127 by127 sz128 ag128 zr128 by128 sz129 ag129 zr129 by129 sz130 ag130 zr130 by130 sz131 ag131 zr131 by131 sz132 ag132 zr132 by132 sz134 ag134 zr134 by134 sz136 ag136 zr136 by136 sz138 ag138
attribute [go_sem] zr138 by138 sz139 ag139 zr139 by139 un140 sz140 ag140 zr140 by140 sz141 ag141 zr141 by141 un142 sz142 ag142 zr142 by142 sz143 ag143 zr143 by143 sz145 ag145 zr145 by145 un146 sz146 ag146 zr146 by146 un147 sz147 ag147 zr147 by147 sz148 ag148
attribute [go_sem] by148 fd148_0 fd148_1 fd148_2 fd148_3 sz149 ag149 by149 fd149_0 fd149_1 fd149_2 fd149_3 sz150 ag150 zr150 by150 sz151 ag151 zr151 by151 sz152 ag152 zr152 by152 sz153 ag153 zr153 by153 un154 sz154 ag154 zr154 by154 sz156 ag156 zr156 by156 un157 sz157 ag157
attribute [go_sem] zr157 by157 sz158 ag158 zr158 by158 ag159 zr159 by159 un161 sz161 ag161 zr161 by161 sz162 ag162 zr162 by162 fd162_0 fd162_1 bd162 sz163 ag163 zr163 by163 fd163_0 fd163_1 bd163 sz164 ag164 zr164 by164 un165 sz165 ag165 zr165 by165 sz166 ag166 zr166
attribute [go_sem] by166 sz167 ag167 zr167 by167 un168 sz168 ag168 zr168 by168 sz169 ag169 by169 fd169_0 sz170 ag170 by170 fd170_0 sz171 ag171 zr171 by171 sz172 ag172 zr172 by172 un173 sz173 ag173 zr173 by173 el173 sz174 ag174 zr174 by174 sz175 ag175 zr175 by175
attribute [go_sem] sz177 ag177 zr177 by177 sz178 ag178 zr178 by178 sz180 ag180 zr180 by180 sz181 ag181 zr181 by181 sz182 ag182 zr182 by182 sz183 ag183 zr183 by183 un184 sz184 ag184 zr184 by184 sz185 ag185 zr185 by185 un186 sz186 ag186 zr186 by186 sz187 ag187
attribute [go_sem] zr187 by187 sz189 ag189 zr189 by189 sz190 ag190 zr190 by190 un191 sz191 ag191 zr191 by191 el191 sz192 ag192 zr192 by192 un193 sz193 ag193 zr193 by193 bd193 sz194 ag194 zr194 by194 sz195 ag195 zr195 by195 sz196 ag196 zr196 by196 un197 sz197
attribute [go_sem] ag197 zr197 by197 un198 sz198 ag198 zr198 by198 bd198 un199 sz199 ag199 zr199 by199 bd199 sz201 ag201 zr201 by201 sz202 ag202 zr202 by202 sz203 ag203 zr203 by203 sz204 ag204 zr204 by204 sz205 ag205 zr205 by205 sz206 ag206 zr206 by206 un207
attribute [go_sem] sz207 ag207 zr207 by207 sz208 ag208 zr208 by208 fd208_0 fd208_1 bd208 sz209 ag209 zr209 by209 fd209_0 fd209_1 bd209 un210 sz210 ag210 zr210 by210 bd210 sz211 ag211 zr211 by211 sz212 ag212 zr212 by212 un213 sz213 ag213 zr213 by213 sz215 ag215 zr215
attribute [go_sem] by215 sz216 ag216 zr216 by216 sz217 ag217 zr217 by217 sz218 ag218 zr218 by218 sz219 ag219 zr219 by219 sz220 ag220 zr220 by220 sz221 ag221 zr221 by221 un222 sz222 ag222 zr222 by222 sz223 ag223 zr223 by223 un224 sz224 ag224 zr224 by224 sz225
attribute [go_sem] ag225 zr225 by225 sz226 ag226 zr226 by226 sz227 ag227 zr227 by227 sz228 ag228 zr228 by228 sz229 ag229 zr229 by229 un230 sz230 ag230 zr230 by230 sz231 ag231 zr231 by231 sz232 ag232 zr232 by232 un235 ag235 zr235 by235 bd235 sz240 ag240 zr240
attribute [go_sem] by240 un241 sz241 ag241 zr241 by241
end Go.Proofs.Zs09
end
/- What a statement's arguments read as, as the interpreter's data. -/
section
set_option linter.unusedVariables false
set_option linter.unusedSimpArgs false
namespace Vm
open Go Go.RowKit
variable [Base]

/-- the fields of a struct lie one behind the other -/
def laysT (P : Program) : Nat → List Field → Option Nat
  | off, [] => some off
  | off, f :: r => if f.offset = off then laysT P (off + P.cellsOf f.type) r else none
/-- types of plain data: numbers, bools, texts, slices, structs and arrays of these; their parts are in a set -/
def plain1 (P : Program) (S : List TypeId) (t : TypeId) : Bool :=
  match P.underlying t with
  | some .bool | some (.int _) | some .string => P.cellsOf t == 1
  | some (.slice e) => P.cellsOf t == 1 && S.contains e && decide (0 < P.cellsOf e)
  | some (.struct fs) => (laysT P 0 fs.toList == some (P.cellsOf t)) && fs.toList.all fun f => S.contains f.type
  | some (.array n e) => (P.cellsOf t == n * P.cellsOf e) && S.contains e
  | _ => false
/-- a set of types whose parts are in it -/
def plainS (P : Program) (S : List TypeId) : Bool := S.all (plain1 P S)
omit [Base] in
theorem plain1_of {P : Program} {S : List TypeId} (h : plainS P S = true) {t : TypeId} (ht : S.contains t = true) : plain1 P S t = true :=
  List.all_eq_true.1 h t (by simpa using ht)
def aggT (P : Program) (t : TypeId) : Bool := (isAggT P t).getD false
mutual
/-- cells of a type -/
inductive Typed (P : Program) : TypeId → List D → Prop
  | bool (t : TypeId) (b : Bool) (h : P.underlying t = some .bool) : Typed P t [.bool b]
  | int (t : TypeId) (k : IntKind) (n : Int) (h : P.underlying t = some (.int k)) (hn : (Lit.int k n).wf = true) : Typed P t [.int k n]
  | str (t : TypeId) (s : List UInt8) (h : P.underlying t = some .string) (hs : s.length ≤ maxLen) : Typed P t [.str s]
  | slice (t e : TypeId) (xs : List D) (h : P.underlying t = some (.slice e)) (hl : xs.length ≤ maxLen) (hx : TypedE P e xs) : Typed P t [.sl false xs]
  | struct (t : TypeId) (fs : Array Field) (ds : List D) (h : P.underlying t = some (.struct fs)) (hf : TypedF P (fs.toList.map (·.type)) ds) : Typed P t ds
  | array (t e : TypeId) (n : Nat) (ds : List D) (h : P.underlying t = some (.array n e)) (hf : TypedF P (List.replicate n e) ds) : Typed P t ds
/-- elements of a type -/
inductive TypedE (P : Program) : TypeId → List D → Prop
  | nil (e : TypeId) : TypedE P e []
  | agg (e : TypeId) (cs : List D) (xs : List D) (ha : aggT P e = true) (h : Typed P e cs) (hr : TypedE P e xs) : TypedE P e (.agg cs :: xs)
  | one (e : TypeId) (x : D) (xs : List D) (ha : aggT P e = false) (h : Typed P e [x]) (hr : TypedE P e xs) : TypedE P e (x :: xs)
/-- cells of types, one behind the other -/
inductive TypedF (P : Program) : List TypeId → List D → Prop
  | nil : TypedF P [] []
  | cons (t : TypeId) (ts : List TypeId) (ds es : List D) (h : Typed P t ds) (hr : TypedF P ts es) : TypedF P (t :: ts) (ds ++ es)
end
/-- arguments of types -/
inductive TypedA (P : Program) : List TypeId → List D → Prop
  | nil : TypedA P [] []
  | agg (t : TypeId) (ts : List TypeId) (cs ds : List D) (ha : aggT P t = true) (h : Typed P t cs) (hr : TypedA P ts ds) : TypedA P (t :: ts) (.agg cs :: ds)
  | one (t : TypeId) (ts : List TypeId) (d : D) (ds : List D) (ha : aggT P t = false) (h : Typed P t [d]) (hr : TypedA P ts ds) : TypedA P (t :: ts) (d :: ds)

def im0 (w : World) : Im := fun b o => w.cell? ⟨b, o, none⟩
theorem rel0 (w : World) (ρ : Rho) (hB : ∀ b o v, Base.B b o = some v → im0 w b o = some v) : Rel ρ (im0 w) [] w :=
  ⟨fun b o v h => h, fun r hr => by simp at hr, fun r s hr => by simp at hr, fun r hr => by simp at hr, hB, fun r hr => by simp at hr⟩

omit [Base] in
theorem laysT_le {P : Program} : ∀ {fs : List Field} {off tot : Nat}, laysT P off fs = some tot → off ≤ tot
  | [], off, tot, h => by simp [laysT] at h; omega
  | f :: r, off, tot, h => by
    simp only [laysT] at h
    split at h
    · have := laysT_le h; omega
    · cases h
omit [Base] in
theorem cells?_spec {w : World} {a : Addr} {m : Nat} {cs : List Value} (h : w.cells? 0 a m = some cs) : cs.length = m ∧ ∀ j, j < m → w.cell? (a.add j) = cs[j]? := by
  unfold World.cells? at h
  rw [if_pos (Nat.zero_le _)] at h
  have key : ∀ (l : List Nat) (cs : List Value), l.mapM (fun i => w.cell? (a.add i)) = some cs → cs.length = l.length ∧ ∀ (j : Nat) (i : Nat), l[j]? = some i → w.cell? (a.add i) = cs[j]? := by
    intro l
    induction l with
    | nil => intro cs h; simp at h; subst h; simp
    | cons x l ih =>
      intro cs h
      rw [List.mapM_cons] at h
      cases hx : w.cell? (a.add x) with
      | none => simp [hx] at h
      | some v =>
        cases hl : l.mapM (fun i => w.cell? (a.add i)) with
        | none => simp [hx, hl] at h
        | some vs =>
          simp [hx, hl] at h; subst h
          obtain ⟨h1, h2⟩ := ih vs hl
          refine ⟨by simp [h1], fun j i hj => ?_⟩
          cases j with
          | zero => simp at hj; subst hj; simp [hx]
          | succ j => simpa using h2 j i (by simpa using hj)
  obtain ⟨h1, h2⟩ := key _ _ h
  refine ⟨by simpa using h1, fun j hj => h2 j j (by simp [hj])⟩
omit [Base] in
theorem add_add (a : Addr) (x y : Nat) (hs : a.spot = none) : (a.add x).add y = a.add (x + y) := by
  obtain ⟨b, o, s⟩ := a
  simp at hs; subst hs
  simp [add_plain, Nat.add_assoc]
omit [Base] in
theorem typed_one {P : Program} {t : TypeId} {ds : List D} (h : Typed P t ds) (ha : aggT P t = false) : ∃ d, ds = [d] ∧ (∀ cs, d ≠ .agg cs) := by
  cases h with
  | bool b h => exact ⟨_, rfl, fun cs h => by cases h⟩
  | int k n h hn => exact ⟨_, rfl, fun cs h => by cases h⟩
  | str s h hs => exact ⟨_, rfl, fun cs h => by cases h⟩
  | slice e xs h hl hx => exact ⟨_, rfl, fun cs h => by cases h⟩
  | struct => rename_i h hf; simp [aggT, isAggT, h] at ha
  | array => rename_i h hf; simp [aggT, isAggT, h] at ha
section
variable {H : Type} {enc : TypeId × Value → H} {P : Program} {w : World} {spare : Nat → Bool} {ρ : Rho} {n : Nat}
omit [Base] in
theorem trod_struct_eq {k : Nat} {t : TypeId} {cs : List Value} {fs : Array Field} (hu : P.underlying t = some (.struct fs)) : DataW.trod enc P w 0 spare true (k + 1) t cs =
    if cs.length = P.cellsOf t then (fs.toList.mapM fun f => DataW.trod enc P w 0 spare true k f.type ((cs.drop f.offset).take (P.cellsOf f.type))).map fun xs => (.agg (xs.map (·.1)), xs.flatMap (·.2)) else none := by
  conv => lhs; unfold DataW.trod
  rw [hu]
omit [Base] in
theorem trod_array_eq {k m : Nat} {t e : TypeId} {cs : List Value} (hu : P.underlying t = some (.array m e)) : DataW.trod enc P w 0 spare true (k + 1) t cs =
    if cs.length = P.cellsOf t then ((List.range m).mapM fun i => DataW.trod enc P w 0 spare true k e ((cs.drop (i * P.cellsOf e)).take (P.cellsOf e))).map fun xs => (.agg (xs.map (·.1)), xs.flatMap (·.2)) else none := by
  conv => lhs; unfold DataW.trod
  rw [hu]
omit [Base] in
theorem trod_typed {S : List TypeId} (hS : plainS P S = true) : ∀ (k : Nat) (t : TypeId) (cs : List Value) (x : DataW H × List MemPlace), DataW.trod enc P w 0 spare true k t cs = some x → S.contains t = true →
    ∃ ds, RepL ρ n (im0 w) cs ds ∧ Typed P t ds
  | 0, t, cs, x, h, hp => by simp [DataW.trod] at h
  | k + 1, t, cs, x, h, hp => by
    have ih := fun t cs x => trod_typed hS k t cs x
    replace hp := plain1_of hS hp
    simp only [plain1] at hp
    cases hu : P.underlying t with
    | none => simp [hu] at hp
    | some td =>
      rw [hu] at hp
      have h' := h
      unfold DataW.trod at h
      rw [hu] at h
      cases td <;> simp only at hp <;> try (cases hp; done)
      case bool =>
        split at h <;> rename_i heq <;> first | (cases heq; done) | skip
        all_goals (first | (cases h; done) | skip)
        rename_i b
        exact ⟨[.bool b], .cons _ _ _ _ rfl (.bool b) .nil, .bool t b hu⟩
      case int kk =>
        split at h <;> rename_i heq <;> first | (cases heq; done) | skip
        all_goals (first | (cases h; done) | skip)
        cases heq
        split at h
        · rename_i hc
          obtain ⟨rfl, hw⟩ := hc
          exact ⟨[.int _ _], .cons _ _ _ _ rfl (.int _ _) .nil, .int t _ _ hu hw⟩
        · cases h
      case string =>
        split at h <;> rename_i heq <;> first | (cases heq; done) | skip
        all_goals (first | (cases h; done) | skip)
        rename_i s
        split at h
        · rename_i hc
          have hl : s.data.toList.length = s.size := by rw [Array.length_toList]; rfl
          exact ⟨[.str s.data.toList], .cons _ _ _ _ rfl (.str s) .nil, .str t _ hu (by omega)⟩
        · cases h
      case slice e =>
        simp only [Bool.and_eq_true, decide_eq_true_eq] at hp
        obtain ⟨⟨_, hpe⟩, hpos⟩ := hp
        split at h <;> rename_i heq <;> first | (cases heq; done) | skip
        all_goals (first | (cases h; done) | skip)
        · cases heq
          exact ⟨[.sl false []], .cons _ _ _ _ rfl (.sl0 _ _ _ (by simp)) .nil, .slice t e [] hu (Nat.zero_le _) (.nil e)⟩
        · rename_i a len cap
          cases heq
          split at h
          · rename_i hc
            obtain ⟨_, hlc, hcm⟩ := hc
            dsimp only at h
            cases hm : (List.range len).mapM (fun i => (w.cells? 0 (a.add (i * P.cellsOf e)) (P.cellsOf e)).bind (DataW.trod enc P w 0 spare true k e)) with
            | none => rw [hm] at h; simp at h
            | some elems =>
              -- element by element
              have key : ∀ (l : List Nat) (el : List (DataW H × List MemPlace)), l.mapM (fun i => (w.cells? 0 (a.add (i * P.cellsOf e)) (P.cellsOf e)).bind (DataW.trod enc P w 0 spare true k e)) = some el →
                  ∀ s, (∀ (j i : Nat), l[j]? = some i → i = s + j) → (l ≠ [] → a.spot = none) →
                  ∃ xs vs, xs.length = l.length ∧ TypedE P e xs ∧ RepL ρ n (im0 w) vs (flatC xs) ∧ (∀ y, y ∈ xs → y.cells.length = P.cellsOf e) ∧ ∀ q, q < vs.length → w.cell? (a.add (s * P.cellsOf e + q)) = vs[q]? := by
                intro l
                induction l with
                | nil => intro el _ s _ _; exact ⟨[], [], rfl, .nil e, .nil, by simp, by simp⟩
                | cons i l ihl =>
                  intro el hel s hs hsp
                  rw [List.mapM_cons] at hel
                  have hi : i = s := by simpa using hs 0 i rfl
                  subst hi
                  cases hcs : w.cells? 0 (a.add (i * P.cellsOf e)) (P.cellsOf e) with
                  | none => simp [hcs] at hel
                  | some ci =>
                    cases htr : DataW.trod enc P w 0 spare true k e ci with
                    | none => simp [hcs, htr] at hel
                    | some xi =>
                      cases hrest : l.mapM (fun i => (w.cells? 0 (a.add (i * P.cellsOf e)) (P.cellsOf e)).bind (DataW.trod enc P w 0 spare true k e)) with
                      | none => simp [hcs, htr, hrest] at hel
                      | some er =>
                        obtain ⟨ds, hds, hty⟩ := ih e ci xi htr hpe
                        obtain ⟨hcl, hcell⟩ := cells?_spec hcs
                        have hsp' := hsp (by simp)
                        obtain ⟨xs, vs, h1, h2, h3, h4, h5⟩ := ihl er hrest (i + 1) (fun j i' hj => by have := hs (j + 1) i' (by simpa using hj); omega) (fun _ => hsp')
                        have hdl : ds.length = P.cellsOf e := by rw [← hds.length, hcl]
                        have fin : ∀ x : D, x.cells = ds → TypedE P e (x :: xs) → ∃ xs vs, xs.length = (i :: l).length ∧ TypedE P e xs ∧ RepL ρ n (im0 w) vs (flatC xs) ∧ (∀ y, y ∈ xs → y.cells.length = P.cellsOf e) ∧ ∀ q, q < vs.length → w.cell? (a.add (i * P.cellsOf e + q)) = vs[q]? := by
                          intro x hxc hte
                          refine ⟨x :: xs, ci ++ vs, by simp [h1], hte, ?_, ?_, ?_⟩
                          · simp only [flatC, List.flatMap_cons, hxc]; exact hds.append h3
                          · intro y hy
                            rcases List.mem_cons.1 hy with rfl | hy
                            · rw [hxc]; exact hdl
                            · exact h4 y hy
                          · intro q hq
                            rcases Nat.lt_or_ge q ci.length with hlt | hge
                            · rw [List.getElem?_append_left hlt, ← hcell q (by omega), add_add a _ _ hsp']
                            · rw [List.getElem?_append_right hge, ← h5 (q - ci.length) (by simp at hq; omega)]
                              congr 2
                              rw [Nat.add_mul]; omega
                        cases ha : aggT P e with
                        | true => exact fin (.agg ds) rfl (.agg e ds xs ha hty h2)
                        | false =>
                          obtain ⟨d, rfl, hna⟩ := typed_one hty ha
                          exact fin d (by cases d <;> first | rfl | exact (hna _ rfl).elim) (.one e d xs ha hty h2)
              have hspot : List.range len ≠ [] → a.spot = none := by
                intro hne
                have hl0 : 0 < len := by cases len with
                  | zero => simp at hne
                  | succ _ => omega
                obtain ⟨l', hl'⟩ : ∃ l', List.range len = 0 :: l' := ⟨(List.range len).tail, by cases len with
                  | zero => omega
                  | succ m => simp [List.range_succ_eq_map]⟩
                rw [hl', List.mapM_cons] at hm
                cases hcs : w.cells? 0 (a.add (0 * P.cellsOf e)) (P.cellsOf e) with
                | none => simp only [hcs] at hm; simp at hm
                | some ci =>
                  obtain ⟨hcl, hcell⟩ := cells?_spec hcs
                  have h0 := hcell 0 hpos
                  rw [List.getElem?_eq_getElem (by omega)] at h0
                  have e1 : (a.add (0 * P.cellsOf e)).add 0 = a := by simp [Addr.add]
                  rw [e1] at h0
                  unfold World.cell? at h0
                  split at h0
                  · split at h0
                    · cases h0
                    · rename_i hs; simpa using hs
                  · cases h0
              obtain ⟨xs, vs, h1, h2, h3, h4, h5⟩ := key (List.range len) elems hm 0 (fun j i hj => by
                rw [List.getElem?_range] at hj
                · simp at hj; omega
                · rcases Nat.lt_or_ge j len with h | h
                  · exact h
                  · rw [List.getElem?_eq_none (by simpa using h)] at hj; cases hj) hspot
              have hxl : xs.length = len := by simpa using h1
              cases hxs : xs with
              | nil =>
                subst hxs
                simp at hxl; subst hxl
                exact ⟨[.sl false []], .cons _ _ _ _ rfl (.sl0 _ _ _ (by simp)) .nil, .slice t e [] hu (Nat.zero_le _) (.nil e)⟩
              | cons x xr =>
                have hsn := hspot (by rw [hxs] at hxl; simp at hxl; intro h0; have := congrArg List.length h0; simp at this; omega)
                obtain ⟨b, o, sp⟩ := a
                simp at hsn; subst hsn
                refine ⟨[.sl false xs], .cons _ _ _ _ rfl ?_ .nil, .slice t e xs hu (by omega) h2⟩
                rw [← hxl]
                refine .sl b o (P.cellsOf e) cap false xs vs h4 (fun q hq => ?_) h3 (by simp) (by omega)
                have := h5 q hq
                rw [add_plain] at this
                simpa [im0] using this
          · cases h
      case struct fs =>
        simp only [Bool.and_eq_true, beq_iff_eq, List.all_eq_true] at hp
        obtain ⟨hlay, hall⟩ := hp
        have hbody : cs.length = P.cellsOf t ∧ ∃ xs, (fs.toList.mapM fun f => DataW.trod enc P w 0 spare true k f.type ((cs.drop f.offset).take (P.cellsOf f.type))) = some xs := by
          rw [trod_struct_eq hu] at h'
          split at h'
          · rename_i hc
            cases hm : (fs.toList.mapM fun f => DataW.trod enc P w 0 spare true k f.type ((cs.drop f.offset).take (P.cellsOf f.type))) with
            | none => simp [hm] at h'
            | some xs => exact ⟨hc, xs, rfl⟩
          · cases h'
        obtain ⟨hcl, xs, hm⟩ := hbody
        have key : ∀ (l : List Field) (off : Nat) (xs : List (DataW H × List MemPlace)), laysT P off l = some (P.cellsOf t) → (∀ f, f ∈ l → S.contains f.type = true) →
            (l.mapM fun f => DataW.trod enc P w 0 spare true k f.type ((cs.drop f.offset).take (P.cellsOf f.type))) = some xs → ∃ ds, RepL ρ n (im0 w) (cs.drop off) ds ∧ TypedF P (l.map (·.type)) ds := by
          intro l
          induction l with
          | nil =>
            intro off xs hl _ _
            simp [laysT] at hl
            rw [List.drop_eq_nil_of_le (by omega)]
            exact ⟨[], .nil, .nil⟩
          | cons f l ihl =>
            intro off xs hl hpl hml
            simp only [laysT] at hl
            split at hl
            · rename_i hoff
              rw [List.mapM_cons] at hml
              cases htr : DataW.trod enc P w 0 spare true k f.type ((cs.drop f.offset).take (P.cellsOf f.type)) with
              | none => simp [htr] at hml
              | some x0 =>
                cases hrest : (l.mapM fun f => DataW.trod enc P w 0 spare true k f.type ((cs.drop f.offset).take (P.cellsOf f.type))) with
                | none => simp [htr, hrest] at hml
                | some xr =>
                  obtain ⟨ds, h1, h2⟩ := ih f.type _ _ htr (hpl f (by simp))
                  obtain ⟨es, h3, h4⟩ := ihl (off + P.cellsOf f.type) xr hl (fun g hg => hpl g (by simp [hg])) hrest
                  refine ⟨ds ++ es, ?_, .cons _ _ _ _ h2 h4⟩
                  have e1 : cs.drop off = (cs.drop f.offset).take (P.cellsOf f.type) ++ cs.drop (off + P.cellsOf f.type) := by
                    rw [hoff, ← List.drop_drop, List.take_append_drop]
                  rw [e1]
                  exact h1.append h3
            · cases hl
        obtain ⟨ds, h1, h2⟩ := key fs.toList 0 xs hlay hall hm
        exact ⟨ds, by simpa using h1, .struct t fs ds hu h2⟩
      case array m e =>
        simp only [Bool.and_eq_true, beq_iff_eq] at hp
        obtain ⟨hsz, hpe⟩ := hp
        have hbody : cs.length = P.cellsOf t ∧ ∃ xs, ((List.range m).mapM fun i => DataW.trod enc P w 0 spare true k e ((cs.drop (i * P.cellsOf e)).take (P.cellsOf e))) = some xs := by
          rw [trod_array_eq hu] at h'
          split at h'
          · rename_i hc
            cases hm : ((List.range m).mapM fun i => DataW.trod enc P w 0 spare true k e ((cs.drop (i * P.cellsOf e)).take (P.cellsOf e))) with
            | none => simp [hm] at h'
            | some xs => exact ⟨hc, xs, rfl⟩
          · cases h'
        obtain ⟨hcl, xs, hm⟩ := hbody
        have key : ∀ (r s : Nat) (xs : List (DataW H × List MemPlace)), s + r = m →
            ((List.range' s r).mapM fun i => DataW.trod enc P w 0 spare true k e ((cs.drop (i * P.cellsOf e)).take (P.cellsOf e))) = some xs → ∃ ds, RepL ρ n (im0 w) (cs.drop (s * P.cellsOf e)) ds ∧ TypedF P (List.replicate r e) ds := by
          intro r
          induction r with
          | zero =>
            intro s xs hs _
            rw [List.drop_eq_nil_of_le (by rw [hcl, hsz]; have : s = m := by omega
                                           subst this; exact Nat.le_refl _)]
            exact ⟨[], .nil, .nil⟩
          | succ r ihr =>
            intro s xs hs hml
            rw [List.range'_succ, List.mapM_cons] at hml
            cases htr : DataW.trod enc P w 0 spare true k e ((cs.drop (s * P.cellsOf e)).take (P.cellsOf e)) with
            | none => simp [htr] at hml
            | some x0 =>
              cases hrest : ((List.range' (s + 1) r).mapM fun i => DataW.trod enc P w 0 spare true k e ((cs.drop (i * P.cellsOf e)).take (P.cellsOf e))) with
              | none => simp [htr, hrest] at hml
              | some xr =>
                obtain ⟨ds, h1, h2⟩ := ih e _ _ htr hpe
                obtain ⟨es, h3, h4⟩ := ihr (s + 1) xr (by omega) hrest
                refine ⟨ds ++ es, ?_, .cons _ _ _ _ h2 h4⟩
                have e1 : cs.drop (s * P.cellsOf e) = (cs.drop (s * P.cellsOf e)).take (P.cellsOf e) ++ cs.drop ((s + 1) * P.cellsOf e) := by
                  rw [Nat.add_mul, Nat.one_mul, ← List.drop_drop, List.take_append_drop]
                rw [e1]
                exact h1.append h3
        rw [List.range_eq_range'] at hm
        obtain ⟨ds, h1, h2⟩ := key m 0 xs (by omega) hm
        exact ⟨ds, by simpa using h1, .array t e m ds hu h2⟩
end
end Vm
end
/- A statement out of what the interpreter comes to. -/
section
set_option linter.unusedVariables false
set_option linter.unusedSimpArgs false
namespace Vm
open Go Go.RowKit

section
variable {H : Type} {enc : TypeId × Value → H} {P : Program} {w : World}
theorem value_typed {S : List TypeId} (hS : plainS P S = true) {t : TypeId} {v : Value} {d : DataW H} {ps : List MemPlace} {ρ : Rho} {n : Nat} (h : DataW.Trod enc P w 0 (fun _ => true) true t v d ps) (hp : S.contains t = true) {base : Nat} (hv : Value.okWide P w .any base t v) :
    ∃ x, Rep ρ n (im0 w) v x ∧ ((aggT P t = true ∧ ∃ cs, x = .agg cs ∧ Typed P t cs) ∨ (aggT P t = false ∧ Typed P t [x])) := by
  obtain ⟨fuel, hf⟩ := h
  obtain ⟨ds, hds, hty⟩ := trod_typed (ρ := ρ) (n := n) hS fuel t _ _ hf hp
  cases ha : aggT P t with
  | true =>
    have : ∃ cs, v = .agg cs := by
      unfold Value.okWide at hv
      unfold aggT isAggT at ha
      cases hu : P.underlying t with
      | none => simp [hu] at ha
      | some td =>
        cases td <;> simp [hu] at ha
        all_goals (simp only [hu] at hv; obtain ⟨cs, rfl, _⟩ := hv; exact ⟨cs, rfl⟩)
    obtain ⟨⟨cs⟩, rfl⟩ := this
    exact ⟨.agg ds, .agg cs ds (by simpa [Value.cells] using hds), .inl ⟨rfl, ds, rfl, hty⟩⟩
  | false =>
    obtain ⟨x, rfl, hna⟩ := typed_one hty ha
    have hcell : v.cells.toList = [v] := by
      have : ∀ cs, v ≠ .agg cs := by
        rintro cs rfl
        have hp1 := plain1_of hS hp
        unfold plain1 at hp1
        unfold Value.okWide at hv
        cases hu : P.underlying t with
        | none => simp [hu] at hp1
        | some td =>
          cases td <;> simp [hu] at hp1 <;> simp only [hu] at hv <;> first
            | (simp [Cell.okWide, Cell.ok, hu] at hv; done)
            | (simp [aggT, isAggT, hu] at ha; done)
      cases v <;> first | rfl | exact (this _ rfl).elim
    rw [hcell] at hds
    cases hds with
    | cons _ _ _ _ _ hr _ => exact ⟨x, hr, .inr ⟨rfl, hty⟩⟩
theorem args_typed {S : List TypeId} (hS : plainS P S = true) {ρ : Rho} {n : Nat} : ∀ {ts : List TypeId} {vs : List Value} {ds : List (DataW H)} {ps : List MemPlace}, DataW.TrodAll enc P w 0 (fun _ => true) true ts vs ds ps →
    (∀ t ∈ ts, S.contains t = true) → (∀ (j : Nat) t v, ts[j]? = some t → vs[j]? = some v → ∃ base, Value.okWide P w .any base t v) → ∃ Ds, RepA ρ n (im0 w) vs Ds ∧ TypedA P ts Ds
  | [], [], [], ps, h, _, _ => ⟨[], .nil, .nil⟩
  | t :: ts, v :: vs, d :: ds, ps, h, hp, hv => by
    obtain ⟨p, q, h1, h2, _⟩ := h
    obtain ⟨base, hv0⟩ := hv 0 t v rfl rfl
    obtain ⟨x, hx, hc⟩ := value_typed hS (ρ := ρ) (n := n) h1 (hp t (by simp)) hv0
    obtain ⟨Ds, g1, g2⟩ := args_typed hS (ρ := ρ) (n := n) h2 (fun t ht => hp t (by simp [ht])) (fun j t v a b => hv (j + 1) t v (by simpa using a) (by simpa using b))
    refine ⟨x :: Ds, .cons _ _ _ _ hx g1, ?_⟩
    rcases hc with ⟨ha, cs, rfl, hty⟩ | ⟨ha, hty⟩
    · exact .agg t ts cs Ds ha hty g2
    · exact .one t ts x Ds ha hty g2
  | [], _ :: _, _, _, h, _, _ => by simp [DataW.TrodAll] at h
  | [], [], _ :: _, _, h, _, _ => by simp [DataW.TrodAll] at h
  | _ :: _, [], _, _, h, _, _ => by simp [DataW.TrodAll] at h
  | _ :: _, _ :: _, [], _, h, _, _ => by simp [DataW.TrodAll] at h
theorem trodAll_stays {W W' : World} (hl : laidOutB P = true) (hb : Below W.heap.size W W') : ∀ {ts : List TypeId} {vs : List Value} {ds : List (DataW H)} {ps : List MemPlace}, DataW.TrodAll enc P W 0 (fun _ => true) true ts vs ds ps →
    (∀ t ∈ ts, P.readableRec t = true ∧ t < P.types.size) → (∀ x ∈ ps, x.block < W.heap.size) → DataW.TrodAll enc P W' 0 (fun b => decide (b < W.heap.size)) true ts vs ds ps
  | [], [], [], ps, h, _, _ => h
  | t :: ts, v :: vs, d :: ds, ps, h, ht, hlt => by
    obtain ⟨p, q, h1, h2, rfl⟩ := h
    exact ⟨p, q, Below.trod hl (ht t (by simp)).1 (ht t (by simp)).2 h1 hb (fun x hx => hlt x (by simp [hx])), trodAll_stays hl hb h2 (fun t h => ht t (by simp [h])) (fun x hx => hlt x (by simp [hx])), rfl⟩
  | [], _ :: _, _, _, h, _, _ => by simp [DataW.TrodAll] at h
  | [], [], _ :: _, _, h, _, _ => by simp [DataW.TrodAll] at h
  | _ :: _, [], _, _, h, _, _ => by simp [DataW.TrodAll] at h
  | _ :: _, _ :: _, [], _, h, _, _ => by simp [DataW.TrodAll] at h
theorem Tr.below {ρ ρ' : Rho} {H' : Heap} {W W' : World} (h : Tr ρ [] W ρ' H' W') : Below W.heap.size W W' :=
  ⟨h.os, h.tape, h.output, h.size, fun k hk => h.keep k hk (fun r hr => by simp at hr)⟩
end

/-- the contract that a statement's row asks -/
theorem law_contract {C : Checked} {f : FuncId} {fn : Func} {s : ChangeSpec} {H : Type} {enc : TypeId × Value → H} {A : Ann} {S : List TypeId} {tb : TypeId} (hvars : s.vars = []) (hl : laidOutB C.prog = true)
    (hts : ∀ t ∈ fn.params.toList, C.prog.readableRec t = true ∧ t < C.prog.types.size) (hS : plainS C.prog S = true) (hpl : (fn.params.toList.all fun t => S.contains t) = true)
    (hbod : bodied C.prog f = true) (hres : fn.resultTypes = #[tb]) (htb : C.prog.underlying tb = some .bool)
    (hs : ∀ ds : List (DataW H), ds.length = fn.params.size → (s.fn H ds).results = [.lit (.bool true)] ∧ (s.fn H ds).args = ds ∧ (s.fn H ds).vars = [])
    (hrun : ∀ Ds, TypedA C.prog fn.params.toList Ds → ∃ k H', runF C.prog A k f Ds [] = some (.ok (.bool true) H')) :
    ∀ (W : World) (base : Nat) (args : Array Value) (ds gs : List (DataW H)) (before : List MemPlace),
      (∀ (j : Nat) t v, fn.params[j]? = some t → args[j]? = some v → Value.okWide C.prog W .any base t v) →
      DataW.Whole enc C.prog fn.params.toList s.vars false W args.toList ds gs before → @PrimOk ⟨im0 W⟩ C.prog A →
      Calls C.prog f args W fun e W' => ∃ v, e = .returned v ∧ s.post enc C.prog fn false true false false W args v W' := by
  intro W base args ds gs before hval hW hA
  letI : Base := ⟨im0 W⟩
  have hW' := hW
  obtain ⟨p, q, hAll, hV, hps, hfz, hnd⟩ := hW
  rw [hvars] at hV
  have hgq : gs = [] ∧ q = [] := by
    cases gs with
    | nil => exact ⟨rfl, by simpa [DataW.TrodVars] using hV⟩
    | cons g gs => simp [DataW.TrodVars] at hV
  obtain ⟨rfl, rfl⟩ := hgq
  obtain ⟨Ds, hrep, hty⟩ := args_typed hS (ρ := fun _ => default) (n := 0) hAll (fun t ht => List.all_eq_true.1 hpl t ht) (fun j t v a b => ⟨base, hval j t v (by simpa using a) (by simpa using b)⟩)
  obtain ⟨k, H', hk⟩ := hrun Ds hty
  have hc := (runF_ok C.mixed hA k f Ds [] _ hk (fun _ => default) (im0 W) W args.toList (rel0 W _ fun _ _ _ h => h) hrep).calls hbod
  refine hc.mono fun e W' hout => ?_
  cases hout with
  | ok ρ' im' _ _ v _ hm hv =>
    have hvb := hv.bool_inv
    subst hvb
    have hb : Below W.heap.size W W' := hm.tr.below
    have hlen : ds.length = fn.params.size := by
      have : ∀ {ts : List TypeId} {vs : List Value} {ds : List (DataW H)} {ps : List MemPlace}, DataW.TrodAll enc C.prog W 0 (fun _ => true) true ts vs ds ps → ds.length = ts.length := by
        intro ts
        induction ts with
        | nil => intro vs ds ps h; cases vs <;> cases ds <;> simp [DataW.TrodAll] at h ⊢
        | cons t ts ih =>
          intro vs ds ps h
          cases vs <;> cases ds <;> simp [DataW.TrodAll] at h ⊢
          obtain ⟨p, _, q, h2, _⟩ := h
          exact ih h2
      simpa using this hAll
    obtain ⟨h1, h2, h3⟩ := hs ds hlen
    refine ⟨_, rfl, ds, [], before, [], p, [], hW', ?_, ?_, ?_, ?_, fun h => by cases h⟩
    · rw [List.append_nil, h1, hres]
      refine ⟨[], [], ⟨1, ?_⟩, rfl, rfl⟩
      simp [DataW.trod, htb, Value.cells, Value.resultList]
    · rw [List.append_nil, h2]
      refine trodAll_stays hl hb hAll hts fun x hx => ?_
      have := hW'.lt x (by rw [hps]; simp [hx])
      simpa using this
    · rw [List.append_nil, h3, hvars]; rfl
    · exact hb.frame _
end Vm
end
/- What typed data are, kind by kind. -/
section
set_option linter.unusedVariables false
namespace Vm
open Go
section
variable {P : Program}
theorem typed_int {t : TypeId} {k : IntKind} {ds : List D} (hu : P.underlying t = some (.int k)) (h : Typed P t ds) : ∃ n, ds = [.int k n] ∧ (Lit.int k n).wf = true := by
  cases h with
  | bool _ b h => rw [hu] at h; cases h
  | int _ k1 n h hn => rw [hu] at h; cases h; exact ⟨n, rfl, hn⟩
  | str _ s h hs => rw [hu] at h; cases h
  | slice _ e xs h hl hx => rw [hu] at h; cases h
  | struct _ fs ds h hf => rw [hu] at h; cases h
  | array _ e n ds h hf => rw [hu] at h; cases h
theorem typed_slice {t e : TypeId} {ds : List D} (hu : P.underlying t = some (.slice e)) (h : Typed P t ds) : ∃ xs, ds = [.sl false xs] ∧ xs.length ≤ maxLen ∧ TypedE P e xs := by
  cases h with
  | bool _ b h => rw [hu] at h; cases h
  | int _ k1 n h hn => rw [hu] at h; cases h
  | str _ s h hs => rw [hu] at h; cases h
  | slice _ e xs h hl hx => rw [hu] at h; cases h; exact ⟨xs, rfl, hl, hx⟩
  | struct _ fs ds h hf => rw [hu] at h; cases h
  | array _ e n ds h hf => rw [hu] at h; cases h
theorem typed_struct {t : TypeId} {fs : Array Field} {ds : List D} (hu : P.underlying t = some (.struct fs)) (h : Typed P t ds) : TypedF P (fs.toList.map (·.type)) ds := by
  cases h with
  | bool _ b h => rw [hu] at h; cases h
  | int _ k1 n h hn => rw [hu] at h; cases h
  | str _ s h hs => rw [hu] at h; cases h
  | slice _ e xs h hl hx => rw [hu] at h; cases h
  | struct _ fs ds h hf => rw [hu] at h; cases h; exact hf
  | array _ e n ds h hf => rw [hu] at h; cases h
def fieldTs (P : Program) (t : TypeId) : Option (List TypeId) :=
  match P.underlying t with
  | some (.struct fs) => some (fs.toList.map (·.type))
  | _ => none
theorem typed_fields {t : TypeId} {ts : List TypeId} {ds : List D} (hu : fieldTs P t = some ts) (h : Typed P t ds) : TypedF P ts ds := by
  unfold fieldTs at hu
  split at hu
  · rename_i fs hs
    cases hu
    exact typed_struct hs h
  · cases hu
theorem typedF_int {t : TypeId} {k : IntKind} {ts : List TypeId} {ds : List D} (hu : P.underlying t = some (.int k)) (h : TypedF P (t :: ts) ds) : ∃ n es, ds = .int k n :: es ∧ TypedF P ts es := by
  cases h with
  | cons _ _ ds es h hr =>
    obtain ⟨n, rfl, _⟩ := typed_int hu h
    exact ⟨n, es, rfl, hr⟩
theorem typedF_nil {ds : List D} (h : TypedF P [] ds) : ds = [] := by cases h; rfl
theorem typedE_agg {e : TypeId} {xs : List D} (ha : aggT P e = true) (h : TypedE P e xs) {α : Type} (f : α → D) (hf : ∀ cs, Typed P e cs → ∃ a, D.agg cs = f a) : ∃ l : List α, xs = l.map f := by
  induction xs with
  | nil => exact ⟨[], rfl⟩
  | cons x xs ih =>
    cases h with
    | agg _ cs _ ha' h hr =>
      obtain ⟨l, hl⟩ := ih hr
      obtain ⟨a, hb⟩ := hf cs h
      exact ⟨a :: l, by rw [List.map_cons, ← hl, hb]⟩
    | one _ _ _ ha' h hr => rw [ha] at ha'; cases ha'
theorem typedA_one {t : TypeId} {ts : List TypeId} {ds : List D} (ha : aggT P t = false) (h : TypedA P (t :: ts) ds) : ∃ d r, ds = d :: r ∧ Typed P t [d] ∧ TypedA P ts r := by
  cases h with
  | agg _ _ cs _ ha' h hr => rw [ha] at ha'; cases ha'
  | one _ _ d ds ha' h hr => exact ⟨d, ds, rfl, h, hr⟩
theorem typedA_nil {ds : List D} (h : TypedA P [] ds) : ds = [] := by cases h; rfl
end
end Vm
end
/- Calls that wait, and what comes back. -/
section
set_option linter.unusedVariables false
set_option linter.unusedSimpArgs false
namespace Vm
open Go
section
variable {P : Program} {A : Ann} {N : Nat}
def WpS (P : Program) (A : Ann) (N : Nat) (c : Code) (e : Env) (H : Heap) (m : Md) (Q : Ex → Env → Heap → Md → Prop) : Prop :=
  ∃ k s m', runS P A N (runC P A (runF P A k) k N) c e H m = some (s, m') ∧ Q s.ex s.e s.H m'
def noRec : Code → Bool
  | .seq a b => noRec a && noRec b
  | .cond _ a b => noRec a && noRec b
  | .region _ ops draw => !(decide (draw = false) && ops.toList.any fun o => recoverC o.op)
  | _ => true
theorem runS_le {k k' : Nat} (h : k ≤ k') {c : Code} {e : Env} {H : Heap} {m : Md} {x : St × Md} (hr : runS P A N (runC P A (runF P A k) k N) c e H m = some x) : runS P A N (runC P A (runF P A k') k' N) c e H m = some x :=
  runS_mono (fun c e H s hs => runRun_mono h N c e H s hs) hr
theorem runS_calm {k : Nat} {m : Md} : ∀ {c : Code} {e : Env} {H : Heap} {s : St}, noRec c = true → runC P A (runF P A k) k N c e H = some s → runS P A N (runC P A (runF P A k) k N) c e H m = some (s, m) := by
  intro c
  induction c with
  | seq a b iha ihb =>
    intro e H s hc h
    simp only [noRec, Bool.and_eq_true] at hc
    simp only [runC] at h
    simp only [runS]
    cases ha : runC P A (runF P A k) k N a e H with
    | none => rw [ha] at h; cases h
    | some s1 =>
      rw [iha hc.1 ha]
      rw [ha] at h
      obtain ⟨x, e1, H1⟩ := s1
      cases x with
      | norm => simp only [Option.bind_some] at h ⊢; exact ihb hc.2 h
      | _ => simp only [Option.bind_some] at h ⊢; first | (cases h; rfl) | (simp at h; subst h; rfl)
  | cond o a b iha ihb =>
    intro e H s hc h
    simp only [noRec, Bool.and_eq_true] at hc
    simp only [runC] at h
    simp only [runS]
    split at h
    · exact iha hc.1 h
    · exact ihb hc.2 h
    · cases h
  | region id ops draw =>
    intro e H s hc h
    simp only [noRec, Bool.not_eq_true', Bool.and_eq_false_iff, decide_eq_false_iff_not] at hc
    simp only [runS]
    rw [if_neg (fun g => hc.elim (fun hc => hc g.1) (fun hc => absurd (hc.symm.trans g.2) (by decide))), h]
    rfl
  | _ => intro e H s hc h; simp only [runS]; rw [h]; rfl
theorem wpS_calm {c : Code} {e : Env} {H : Heap} {m : Md} {Q : Ex → Env → Heap → Md → Prop} (hc : noRec c = true) (h : WpB P A N c e H (fun x e H => Q x e H m)) : WpS P A N c e H m Q := by
  unfold WpB at h
  obtain ⟨k, s, h1, h2⟩ := h
  exact ⟨k, s, m, runS_calm hc h1, h2⟩
theorem wpS_seq {a b : Code} {e : Env} {H : Heap} {m : Md} {Q : Ex → Env → Heap → Md → Prop} (h : WpS P A N a e H m (fun x e H m => x = .norm ∧ WpS P A N b e H m Q)) : WpS P A N (.seq a b) e H m Q := by
  obtain ⟨k, ⟨x, e1, H1⟩, m1, h1, hx, k2, s2, m2, h2, h3⟩ := h
  simp only at hx h2
  subst hx
  refine ⟨max k k2, s2, m2, ?_, h3⟩
  simp only [runS, runS_le (Nat.le_max_left k k2) h1, Option.bind_some]
  exact runS_le (Nat.le_max_right k k2) h2
theorem wpS_cond {o : Operand} {a b : Code} {t : Bool} {e : Env} {H : Heap} {m : Md} {Q : Ex → Env → Heap → Md → Prop} (hc : evalO e o = some (.bool t)) (ht : t = true → WpS P A N a e H m Q) (hf : t = false → WpS P A N b e H m Q) : WpS P A N (.cond o a b) e H m Q := by
  cases t with
  | true => obtain ⟨k, s, m', h1, h2⟩ := ht rfl; exact ⟨k, s, m', by simp only [runS, hc]; exact h1, h2⟩
  | false => obtain ⟨k, s, m', h1, h2⟩ := hf rfl; exact ⟨k, s, m', by simp only [runS, hc]; exact h1, h2⟩
/-- what came back of a panic, kept in a variable -/
theorem wpS_rec {id t u : Nat} {o1 o2 : Oper} {e : Env} {H : Heap} {m : Md} {Q : Ex → Env → Heap → Md → Prop} (h1 : recoverC o1.op = true) (g1 : o1.guard = none) (d1 : o1.dst = some t) (h2 : o2.op = .assign (.tmp t)) (g2 : o2.guard = none) (d2 : o2.dst = some u)
    (ht : dstOk N (some t) = true) (hu : dstOk N (some u) = true) (hq : Q .norm (putO (putO e (some t) (recD m).1) (some u) (recD m).1) H (recD m).2) : WpS P A N (.region id #[o1, o2] false) e H m Q := by
  refine ⟨0, ⟨.norm, putO (putO e (some t) (recD m).1) (some u) (recD m).1, H⟩, (recD m).2, ?_, hq⟩
  have r2 : recoverC o2.op = false := by rw [h2]; rfl
  simp only [runS]
  rw [if_pos (by simp [h1])]
  have w1 : wantD #[o1, o2] e o1 = some true := by simp [wantD, g1]
  have w2 : ∀ e', wantD #[o1, o2] e' o2 = some true := fun e' => by simp [wantD, g2]
  have hs : stepOp P A (fun _ _ _ => none) o2.op (putO e (some t) (recD m).1) H = some (.ok (recD m).1 H) := by
    rw [h2]
    simp [stepOp, evalO, putO, put]
    try rfl
  have p2 : plainO o2.op = true := by rw [h2]; rfl
  simp only [runOpsS, d1, d2, ht, hu, Bool.true_eq_false, if_false, w1, w2, h1, r2, if_true, p2, hs, Bool.false_eq_true, Option.map_some]
/-- what is left of a function: its waiting calls -/
def LvQ (P : Program) (A : Ann) (rs : List ResultVar) (K Kp : D → Heap → Prop) (e : Env) (l : List Dfr) (m : Md) (H : Heap) : Prop :=
  ∃ k r, leaveD P A (fun N => runC P A (runF P A k) k N) rs e l m H = some r ∧ (match r with | .ok d H' => K d H' | .pan d H' => Kp d H')
variable {rs : List ResultVar} {K Kp : D → Heap → Prop} {e : Env} {H : Heap} {l : List Dfr}
theorem leaveQ_ret (hd : e.df = some l) (h : LvQ P A rs K Kp e l .ret H) : LeaveQ P A rs K Kp .ret e H := by
  obtain ⟨k, r, h1, h2⟩ := h
  exact ⟨l, k, r, hd, h1, h2⟩
theorem leaveQ_norm (hd : e.df = some l) (h : LvQ P A rs K Kp e l .ret H) : LeaveQ P A rs K Kp .norm e H := by
  obtain ⟨k, r, h1, h2⟩ := h
  exact ⟨l, k, r, hd, h1, h2⟩
theorem leaveQ_pan {d : D} (hd : e.df = some l) (h : LvQ P A rs K Kp e l (.pan d) H) : LeaveQ P A rs K Kp (.pan d) e H := by
  obtain ⟨k, r, h1, h2⟩ := h
  exact ⟨l, k, r, hd, h1, h2⟩
theorem lvQ_ret {ds : List D} (hr : resD P e H rs = some ds) (h : K (oneD ds) H) : LvQ P A rs K Kp e [] .ret H :=
  ⟨0, .ok (oneD ds) H, by simp [leaveD, hr], h⟩
theorem lvQ_pan {d : D} (h : Kp d H) : LvQ P A rs K Kp e [] (.pan d) H := ⟨0, .pan d H, by simp [leaveD], h⟩
theorem lvQ_call {f : FuncId} {fn : Func} {c : Code} {n : Nat} {args : List D} {m : Md} (hf : P.funcs[f]? = some fn) (hb : fn.body = some c) (hn : (fn.name == "runtime.NumGoroutine") = false) (hN : fn.ntmps = n) (hr : fn.results.toList = []) (ha : Nat.ble args.length n = true)
    (h : WpS P A n c (ofArgs args) H m (fun x e2 H2 m2 => (x = .norm ∨ x = .ret) ∧ e2.df = some [] ∧ LvQ P A rs K Kp e l m2.settle H2)) : LvQ P A rs K Kp e (.call f args :: l) m H := by
  subst hN
  obtain ⟨k, ⟨x, e2, H2⟩, m2, h1, hx, hdf, k2, r, h2, h3⟩ := h
  have ha' := Nat.le_of_ble_eq_true ha
  have hcond : ¬ ((fn.name == "runtime.NumGoroutine" || decide (args.length > fn.ntmps)) = true) := by simp [hn]; omega
  refine ⟨max k k2, r, ?_, h3⟩
  have q1 := runS_le (Nat.le_max_left k k2) h1
  have q2 := leaveD_mono (fun N c e H s hs => runRun_mono (P := P) (A := A) (Nat.le_max_right k k2) N c e H s hs) h2
  have hl : lastD P A (fun N => runC P A (runF P A (max k k2)) (max k k2) N) f args m H = some (m2.settle, H2) := by
    simp only at hx hdf
    have hno : noDf e2.df = true := by rw [hdf]; rfl
    simp only [lastD, hf, hb, if_neg hcond]
    rw [q1]
    simp only [Option.bind_some]
    rcases hx with rfl | rfl <;> simp [hno, hr, resD]
  have : leaveD P A (fun N => runC P A (runF P A (max k k2)) (max k k2) N) rs e (.call f args :: l) m H = (lastD P A (fun N => runC P A (runF P A (max k k2)) (max k k2) N) f args m H).bind fun (m, H) => leaveD P A (fun N => runC P A (runF P A (max k k2)) (max k k2) N) rs e l m H := by cases m <;> rfl
  rw [this, hl]
  exact q2
def pushF (P : Program) (e : Env) : Option (List Dfr) → Option (List D) → Option D → Option Env
  | some l, some args, some (.fn g cs) => if bodied P g then some ⟨e.f, some (.call g (args ++ cs) :: l)⟩ else none
  | _, _, _ => none
theorem pushD_eq {P : Program} {e : Env} {f : Operand} {args : Array Operand} {ts : Array TypeId} : pushD P e ⟨.value f, args, ts⟩ = pushF P e e.df (evalOs e args.toList) (evalO e f) := by
  unfold pushD
  cases h1 : e.df with
  | none => rfl
  | some l =>
    simp only [Option.bind_some]
    cases h2 : evalOs e args.toList with
    | none => rfl
    | some as1 =>
      simp only [Option.bind_some]
      cases h3 : evalO e f with
      | none => rfl
      | some d => cases d <;> rfl
theorem pushF_fn {P : Program} {e : Env} {l : List Dfr} {args cs : List D} {g : FuncId} : pushF P e (some l) (some args) (some (.fn g cs)) = if bodied P g then some ⟨e.f, some (.call g (args ++ cs) :: l)⟩ else none := rfl
attribute [go_sem] pushD_eq pushF_fn
end
end Vm
end
/- Guards that are not settled: both ways. -/
section
set_option linter.unusedVariables false
namespace Vm
open Go
section
variable {P : Program} {A : Ann} {N : Nat} {S : List (Option Nat)} {o : Oper} {rest : List Oper} {e : Env} {H : Heap} {K : Env → Heap → Prop} {Kp : D → Env → Heap → Prop}
theorem stepsB_both {b : Bool} {dc : Option Call} (h1 : b = true → stepsB (some true) dc P A N S o rest e H K Kp) (h2 : b = false → stepsB (some false) dc P A N S o rest e H K Kp) : stepsB (some b) dc P A N S o rest e H K Kp := by
  cases b
  · exact h2 rfl
  · exact h1 rfl
theorem stepsXB_both {b : Bool} {prs : List (List Nat × List Nat)} (h1 : b = true → stepsXB (some true) P A N S prs o rest e H K) (h2 : b = false → stepsXB (some false) P A N S prs o rest e H K) : stepsXB (some b) P A N S prs o rest e H K := by
  cases b
  · exact h2 rfl
  · exact h1 rfl
end
end Vm
namespace Vm
open Go
/-- how great what lies first in an object is -/
def vecO (o : Ob) (n : Nat) : Bool :=
  match o with
  | .arr (x :: _) | .fro (x :: _) => x.cells.length == n
  | _ => false
theorem vecSize_o {H : Heap} {r n : Nat} : vecSize H r n = vecO (hget H r) n := by
  unfold vecSize vecO; rfl
theorem vecO_arr {xs : List D} {n : Nat} (h : xs ≠ []) (hs : headSize n xs = true) : vecO (.arr xs) n = true := by
  cases xs with
  | nil => exact absurd rfl h
  | cons x l => exact hs
end Vm
end
/- Loops by a measure that the invariant names; how many are not in a table. -/
section
set_option linter.unusedVariables false
namespace Vm
open Go
theorem wpB_loopM {P : Program} {A : Ann} {N : Nat} {e : Env} {H : Heap} {Q : Ex → Env → Heap → Prop} {b : Code} (I : Nat → Env → Heap → Prop) (m0 : Nat) (h0 : I m0 e H)
    (hstep : ∀ m e H, I m e H → ∀ R : Env → Heap → Prop, (∀ m' e' H', I m' e' H' → m' < m → R e' H') → WpB P A N b e H (SeqQ R Q)) : WpB P A N (.loop b) e H Q := by
  have hf : ∀ (e : Env) (H : Heap), ∃ f : Nat, (∃ m, I m e H) → (I f e H ∧ ∀ m, I m e H → f ≤ m) := by
    intro e H
    by_cases h : ∃ m, I m e H
    · obtain ⟨m, hm⟩ := h
      induction m using Nat.strongRecOn with
      | _ m ih =>
        by_cases hl : ∃ m', m' < m ∧ I m' e H
        · obtain ⟨m', h1, h2⟩ := hl
          exact ih m' h1 h2
        · exact ⟨m, fun _ => ⟨hm, fun m' h' => Nat.le_of_not_lt fun hlt => hl ⟨m', hlt, h'⟩⟩⟩
    · exact ⟨0, fun h' => absurd h' h⟩
  let μ : Env → Heap → Nat := fun e H => Classical.choose (hf e H)
  have hμ : ∀ e H, (∃ m, I m e H) → (I (μ e H) e H ∧ ∀ m, I m e H → μ e H ≤ m) := fun e H => Classical.choose_spec (hf e H)
  refine wpB_loop (fun e H => ∃ m, I m e H) μ ⟨m0, h0⟩ fun e H hI R hR => ?_
  have h1 := hμ e H hI
  refine hstep (μ e H) e H h1.1 R fun m' e' H' h2 h3 => hR e' H' ⟨m', h2⟩ ?_
  exact Nat.lt_of_le_of_lt ((hμ e' H' ⟨m', h2⟩).2 m' h2) h3
/-- how many below a bound aren't in a table -/
def cntF (q : Nat → Bool) : Nat → Nat
  | 0 => 0
  | k + 1 => cntF q k + if q k then 0 else 1
theorem cntF_le {q q' : Nat → Bool} : ∀ {k : Nat}, (∀ s, s < k → q s = true → q' s = true) → cntF q' k ≤ cntF q k
  | 0, _ => Nat.le_refl _
  | k + 1, h => by
    have h1 := cntF_le (k := k) fun s hs => h s (by omega)
    have h2 := h k (by omega)
    simp only [cntF]
    cases hq : q k
    · cases q' k <;> simp <;> omega
    · rw [h2 hq]; simp; exact h1
theorem cntF_lt {q q' : Nat → Bool} : ∀ {k : Nat}, (∀ s, s < k → q s = true → q' s = true) → (∃ s, s < k ∧ q s = false ∧ q' s = true) → cntF q' k < cntF q k
  | 0, _, ⟨s, h, _⟩ => by omega
  | k + 1, h, ⟨s, h1, h2, h3⟩ => by
    have h4 := cntF_le (k := k) fun s hs => h s (by omega)
    simp only [cntF]
    by_cases e : s = k
    · subst e
      rw [h2, h3]; simp; omega
    · have h5 := cntF_lt (k := k) (fun s hs => h s (by omega)) ⟨s, by omega, h2, h3⟩
      have h6 := h k (by omega)
      cases hq : q k
      · cases q' k <;> simp <;> omega
      · rw [h6 hq]; simp; exact h5
/-- plain lists, told one by one -/
def stripS (l : List D) : Option (List D) := stripL l
def consO (d : Option D) (l : Option (List D)) : Option (List D) := d.bind fun d => l.map (d :: ·)
theorem consO_some {d : D} {l : List D} : consO (some d) (some l) = some (d :: l) := rfl
theorem stripS_nil : stripS [] = some [] := rfl
theorem stripS_cons {d : D} {l : List D} : stripS (d :: l) = consO (strip d) (stripS l) := by
  unfold stripS consO
  rw [stripL]
def fzM (b : Prop) [Decidable b] (ys : Option (List D)) (H : Heap) : Option R := fzN b ys H
theorem fzN_S {b : Prop} [Decidable b] {xs : List D} {H : Heap} : fzN b (stripL xs) H = fzM b (stripS xs) H := rfl
theorem fzM_true {ys : List D} {H : Heap} : fzM True (some ys) H = some (.ok (.sl false ys) H) := rfl
theorem fzM_eq {n : Nat} {ys : List D} {H : Heap} : fzM (n = n) (some ys) H = some (.ok (.sl false ys) H) := by simp [fzM, fzN]
theorem strip_intR {k : IntKind} {n : Int} : strip (.int k n) = some (.int k n) := rfl
theorem strip_boolR {b : Bool} : strip (.bool b) = some (.bool b) := rfl
theorem strip_strR {s : List UInt8} : strip (.str s) = some (.str s) := rfl
attribute [go_sem] consO_some stripS_nil stripS_cons fzN_S fzM_true fzM_eq strip_intR strip_boolR strip_strR
/-- what the driver closes -/
theorem gs {p : Prop} (h : p := by simp (maxSteps := 1000000) (dsimp := false) (disch := omega) only [go_sem, simprocAttr, *]) : p := h
end Vm
end
/- What is shown of the interpreter's run of a function that writes nothing holds of the function's calls. -/
section
set_option linter.unusedVariables false
namespace Vm
open Go
theorem calls_of_ev [Base] {P : Program} {A : Ann} {f : FuncId} {args : List D} {H : Heap} {d : D} (hmo : P.follows .mixedOrders = true) (hA : PrimOk P A) (hb : bodied P f = true) (h : EvF P A f args H (fun d' H' => d' = d ∧ H' = H) (fun _ _ => False))
    {ρ : Rho} {im : Im} {w : World} {vs : List Value} (hR : Rel ρ im H w) (hvs : RepA ρ H.length im vs args) : Calls P f ⟨vs⟩ w (OutR ρ im H w (.ok d H)) := by
  obtain ⟨k, res, h1, h2⟩ := h
  cases res with
  | pan d' H' => exact h2.elim
  | ok d' H' =>
    obtain ⟨rfl, rfl⟩ := h2
    exact (runF_ok hmo hA k f args _ _ h1 ρ im w vs hR hvs).calls hb
/-- what is shown of a function's run with memory of its own holds of its calls with plain arguments -/
theorem calls_of_pure [Base] {P : Program} {A : Ann} {f : FuncId} {args : List D} {H : Heap} {d : D} (hmo : P.follows .mixedOrders = true) (hA : PrimOk P A) (hb : bodied P f = true) (h : PureF P A f args d) (hst : stripL args = some args)
    {ρ : Rho} {im : Im} {w : World} {vs : List Value} (hR : Rel ρ im H w) (hvs : RepA ρ H.length im vs args) : Calls P f ⟨vs⟩ w (OutR ρ im H w (.ok d H)) := by
  obtain ⟨k, res, h1, h2⟩ := h
  cases res with
  | pan d' H' => exact h2.elim
  | ok d' H' =>
    have := OutR.of_pure (runF_ok hmo hA k) hb hR (Mv.refl hR) hvs hst h1 h2
    rwa [ite_self] at this
mutual
/-- the same plain data? -/
def eqPl : D → D → Bool
  | .bool a, .bool b => a == b
  | .int k a, .int k' b => decide (k = k') && a == b
  | .str a, .str b => a == b
  | .nilp, .nilp | .nilm, .nilm | .niln, .niln | .nili, .nili => true
  | .sl f a, .sl g b => f == g && eqPlL a b
  | .agg a, .agg b => eqPlL a b
  | .tup a, .tup b => eqPlL a b
  | _, _ => false
def eqPlL : List D → List D → Bool
  | [], [] => true
  | x :: r, y :: s => eqPl x y && eqPlL r s
  | _, _ => false
end
mutual
theorem eqPl_eq : ∀ {a b : D}, eqPl a b = true → a = b
  | .bool a, b, h => by cases b <;> simp_all [eqPl]
  | .int k a, b, h => by cases b <;> simp_all [eqPl]
  | .str a, b, h => by cases b <;> simp_all [eqPl]
  | .nilp, b, h => by cases b <;> simp_all [eqPl]
  | .nilm, b, h => by cases b <;> simp_all [eqPl]
  | .niln, b, h => by cases b <;> simp_all [eqPl]
  | .nili, b, h => by cases b <;> simp_all [eqPl]
  | .sl f a, b, h => by
    cases b <;> simp only [eqPl] at h <;> first | (cases h; done) | skip
    simp only [Bool.and_eq_true, beq_iff_eq] at h
    rw [h.1, eqPlL_eq h.2]
  | .agg a, b, h => by
    cases b <;> simp only [eqPl] at h <;> first | (cases h; done) | skip
    rw [eqPlL_eq h]
  | .tup a, b, h => by
    cases b <;> simp only [eqPl] at h <;> first | (cases h; done) | skip
    rw [eqPlL_eq h]
  | .ptr .., b, h | .ept .., b, h | .vec .., b, h | .map _, b, h | .fn .., b, h | .bfn .., b, h | .iface .., b, h | .yld _, b, h => by simp [eqPl] at h
theorem eqPlL_eq : ∀ {a b : List D}, eqPlL a b = true → a = b
  | [], b, h => by cases b <;> simp_all [eqPlL]
  | x :: r, b, h => by
    cases b with
    | nil => simp [eqPlL] at h
    | cons y s =>
      simp only [eqPlL, Bool.and_eq_true] at h
      rw [eqPl_eq h.1, eqPlL_eq h.2]
end
/-- a closed run tells this -/
def tells (x : Option R) (d : D) : Bool :=
  match x with
  | some (.ok d' H) => match outPure H d' with
    | some e => eqPl e d
    | none => false
  | _ => false
theorem tells_pure {P : Program} {A : Ann} {f : FuncId} {k : Nat} {args : List D} {d : D} (h : tells (runF P A k f args []) d = true) : PureF P A f args d := by
  unfold tells at h
  split at h
  · rename_i d' H hr
    split at h
    · rename_i e ho
      refine ⟨k, _, hr, ?_⟩
      show outPure H d' = some d
      rw [ho, eqPl_eq h]
    · cases h
  · cases h
/-- told at once, for arguments that are known -/
def onlyP (al : List D) (d : D) : List D → Heap → Option R := fun args H => (pures H args).bind fun (bs, H') => if eqPlL bs al = true then some (.ok d (if flat d then H else H')) else none
theorem only_calls [Base] {P : Program} {A : Ann} {f : FuncId} {al args : List D} {H : Heap} {d : D} {r : R} (hmo : P.follows .mixedOrders = true) (hA : PrimOk P A) (hb : bodied P f = true) (hq : primQ A f = false) (hm : A.mode f = .pure) (hp : PureF P A f al d) (h : onlyP al d args H = some r)
    {ρ : Rho} {im : Im} {w : World} {vs : List Value} (hR : Rel ρ im H w) (hvs : RepA ρ H.length im vs args) : Calls P f ⟨vs⟩ w (OutR ρ im H w r) := by
  unfold onlyP at h
  obtain ⟨⟨bs, H'⟩, h1, h2⟩ := bind_some h
  simp only at h2
  split at h2
  · rename_i he
    cases h2
    have := eqPlL_eq he
    subst this
    obtain ⟨k, res, h3, h4⟩ := hp
    cases res with
    | pan d' H' => exact h4.elim
    | ok d' Hc =>
      have hc : callD P A (runF P A k) f args H = some (.ok d (if flat d then H else H')) := by
        simp only [callD, hb, Bool.true_eq_false, if_false, (primQ_none hq).1, (primQ_none hq).2, hm, h1, Option.bind_some, h3]
        rw [if_neg (by decide), h4]
        rfl
      rcases callD_ok hA (runF_ok hmo hA k) hR hvs hc with ⟨_, hcalls⟩ | ⟨_, _, _, _, _, hx, _⟩
      · exact hcalls
      · rw [callFunc_run hb] at hx
        cases hx
  · cases h2
end Vm
end
/- Lists of numbers. -/
section
set_option maxHeartbeats 4000000
set_option linter.unusedVariables false
set_option linter.unusedSimpArgs false
-- use:
namespace Go.Proofs.W
open Go Vm Go.Proofs.Zs09

def isD (l : List Int) : D := .sl false (l.map (.int .i64))
theorem strip_ints (l : List Int) : stripL (l.map (.int .i64)) = some (l.map (.int .i64)) := by
  induction l with
  | nil => rfl
  | cons q r ih => simp [stripL, ih, strip]
theorem strip_is (l : List Int) : strip (isD l) = some (isD l) := by simp [isD, strip, strip_ints]
theorem take_succ' {α : Type} {l : List α} {j : Nat} (h : j < l.length) : l.take (j + 1) = l.take j ++ [l[j]] := by rw [List.take_add_one, List.getElem?_eq_getElem h]; rfl
theorem headInts (l : List Int) : headSize 1 (l.map (D.int .i64)) = true := by cases l <;> rfl
/-- all numbers from one on -/
def allN (p : Nat → Bool) : Nat → Nat → Bool
  | _, 0 => true
  | j, m + 1 => p j && allN p (j + 1) m
theorem allN_iff {p : Nat → Bool} : ∀ {m j : Nat}, allN p j m = true ↔ ∀ i, j ≤ i → i < j + m → p i = true
  | 0, j => by simp [allN]; intro i h1 h2; omega
  | m + 1, j => by
    simp only [allN, Bool.and_eq_true, allN_iff (m := m)]
    constructor
    · rintro ⟨h0, h⟩ i h1 h2
      by_cases e : i = j
      · subst e; exact h0
      · exact h i (by omega) (by omega)
    · intro h
      exact ⟨h j (Nat.le_refl _) (by omega), fun i h1 h2 => h i (by omega) (by omega)⟩
theorem strip1 {a : D} (h : strip a = some a) : stripL [a] = some [a] := by simp [stripL, h]
theorem strip2 {a b : D} (h : strip a = some a) (k : strip b = some b) : stripL [a, b] = some [a, b] := by simp [stripL, h, k]
theorem strip3 {a b c : D} (h : strip a = some a) (k : strip b = some b) (j : strip c = some c) : stripL [a, b, c] = some [a, b, c] := by simp [stripL, h, k, j]
theorem ex_at {α : Type} {l : List α} {i : Nat} (d : α) (h : i < l.length) : ∃ x, l[i]? = some x ∧ l.getD i d = x := ⟨l[i], List.getElem?_eq_getElem h, by simp [List.getD, h]⟩
/-- kept out of simp's sight -/
def Hid (p : Prop) : Prop := p
theorem allL_drop {p : Int → Bool} {l : List Int} {j : Nat} (h : j < l.length) : (l.drop j).all p = (p l[j] && (l.drop (j + 1)).all p) := by
  rw [List.drop_eq_getElem_cons h]; rfl
end Go.Proofs.W
end
/- Machines with free steps: whether one may be; told at once. -/
section
set_option maxHeartbeats 4000000
set_option linter.unusedVariables false
set_option linter.unusedSimpArgs false
namespace Go.Proofs.W
open Go Vm Go.Proofs.Zs09

/-- what writes what others hold, alone -/
def AR : Ann := { mode := fun f => if f = 132 then .state else .pure, prim := fun _ => none }
theorem primR [Base] : PrimOk Tryz.prog AR := ⟨fun f k h => (by cases h), fun f g h => (by cases h), fun f p h => (by cases h)⟩
structure Nfa where
  free : List (List Int)
  set : List Int
  to : List Int
  rule : List Int
def u16D (l : List Int) : D := .sl false (l.map (.int .u16))
def issD (l : List (List Int)) : D := .sl false (l.map isD)
def nfaD (n : Nfa) : D := .agg [issD n.free, u16D n.set, isD n.to, isD n.rule]
theorem strip_u16s (l : List Int) : stripL (l.map (.int .u16)) = some (l.map (.int .u16)) := by
  induction l with
  | nil => rfl
  | cons q r ih => simp [stripL, ih, strip]
theorem strip_iss (l : List (List Int)) : stripL (l.map isD) = some (l.map isD) := by
  induction l with
  | nil => rfl
  | cons q r ih => simp [stripL, ih, strip_is]
theorem strip_issD (l : List (List Int)) : strip (issD l) = some (issD l) := by simp [issD, strip, strip_iss]
theorem strip_u16D (l : List Int) : strip (u16D l) = some (u16D l) := by simp [u16D, strip, strip_u16s]
theorem strip_nfa (n : Nfa) : strip (nfaD n) = some (nfaD n) := by simp [nfaD, strip, stripL, strip_issD, strip_u16D, strip_is]
/-- is it a state? -/
def isS (k : Nat) (s : Int) : Bool := decide (0 ≤ s) && decide (s < k)
theorem isS_iff {k : Nat} {s : Int} : isS k s = true ↔ 0 ≤ s ∧ s < k := by simp [isS]
def rowOkN (n : Nfa) (i : Nat) : Bool :=
  !(decide (n.set.getD i 0 ≠ 0) && !isS n.set.length (n.to.getD i 0)) && decide (-1 ≤ n.rule.getD i 0) && decide (n.rule.getD i 0 < 16) && (n.free.getD i []).all (isS n.set.length)
def rightN (n : Nfa) : Bool := decide (1 ≤ n.set.length ∧ n.set.length ≤ 3300 ∧ n.free.length = n.set.length ∧ n.to.length = n.set.length ∧ n.rule.length = n.set.length) && allN (rowOkN n) 0 n.set.length
theorem is_at {l : List Int} {i : Nat} : (l.map (D.int .i64))[i]? = (l[i]?).map (.int .i64) := by simp
theorem right1_ok (s : Int) (k r : Nat) (H : Heap) (hg : hget H r = .arr [.int .i64 k]) : EvF Tryz.prog AR 132 [.int .i64 s, .ptr r 0 0] H (fun d H' => d = .bool (isS k s) ∧ H' = H) (fun _ _ => False) := by
  refine evF_inB (n := 11) (rs := [.tmp 3]) Tryz.func132 rfl rfl rfl rfl rfl rfl ?_
  by_cases h0 : 0 ≤ s
  · by_cases h1 : s < k
    · repeat' (first | refine wpB_seq ?_ | refine wpB_regionL rfl ?_ | refine wpB_block ?_ | refine wpB_skip ?_ | refine wpB_exit ?_ | refine wpB_ret ?_ | simp (maxSteps := 1000000) (dsimp := false) (disch := omega) only [go_sem, simprocAttr, *, isS])
    · repeat' (first | refine wpB_seq ?_ | refine wpB_regionL rfl ?_ | refine wpB_block ?_ | refine wpB_skip ?_ | refine wpB_exit ?_ | refine wpB_ret ?_ | simp (maxSteps := 1000000) (dsimp := false) (disch := omega) only [go_sem, simprocAttr, *, isS])
  · repeat' (first | refine wpB_seq ?_ | refine wpB_regionL rfl ?_ | refine wpB_block ?_ | refine wpB_skip ?_ | refine wpB_exit ?_ | refine wpB_ret ?_ | simp (maxSteps := 1000000) (dsimp := false) (disch := omega) only [go_sem, simprocAttr, *, isS])
theorem isRow {n : Nfa} {i : Nat} (h : i < n.free.length) : (n.free.map isD)[i]? = some (isD n.free[i]) := by simp [h]
theorem nright_ok (n : Nfa) (hs : n.set.length ≤ 1000000) (hf : ∀ l ∈ n.free, l.length ≤ 1000000) : PureF Tryz.prog AR 107 [nfaD n] (.bool (rightN n)) := by
  refine evF_inB (n := 91) (rs := [.tmp 2]) Tryz.func107 rfl rfl rfl rfl rfl rfl ?_
  by_cases c1 : n.set.length = 0
  · have hz : rightN n = false := by simp [rightN, c1]
    rw [hz]
    repeat' (first | refine wpB_seq ?_ | refine wpB_regionL rfl ?_ | refine wpB_block ?_ | refine wpB_skip ?_ | refine wpB_exit ?_ | refine wpB_ret ?_ | simp (maxSteps := 1000000) (dsimp := false) (disch := omega) only [go_sem, simprocAttr, *, nfaD, u16D])
    refine wpB_cond (by simp (maxSteps := 1000000) (dsimp := false) (disch := omega) only [go_sem, simprocAttr, *]; exact rfl) (fun hb => ?_) (fun hb => ?_) <;> try simp (maxSteps := 1000000) (dsimp := false) (disch := omega) only [go_sem, simprocAttr, decide_eq_true_eq, decide_eq_false_iff_not, Bool.not_eq_true, Bool.not_eq_false, Int.not_lt, Int.not_le] at hb
    repeat' (first | refine wpB_seq ?_ | refine wpB_regionL rfl ?_ | refine wpB_block ?_ | refine wpB_skip ?_ | refine wpB_exit ?_ | refine wpB_ret ?_ | simp (maxSteps := 1000000) (dsimp := false) (disch := omega) only [go_sem, simprocAttr, *])
    try rfl
  by_cases c2 : n.set.length ≤ 3300
  case neg =>
    have hz : rightN n = false := by simp [rightN, c2]
    rw [hz]
    repeat' (first | refine wpB_seq ?_ | refine wpB_regionL rfl ?_ | refine wpB_block ?_ | refine wpB_skip ?_ | refine wpB_exit ?_ | refine wpB_ret ?_ | simp (maxSteps := 1000000) (dsimp := false) (disch := omega) only [go_sem, simprocAttr, *, nfaD, u16D])
    refine wpB_cond (by simp (maxSteps := 1000000) (dsimp := false) (disch := omega) only [go_sem, simprocAttr, *]; exact rfl) (fun hb => ?_) (fun hb => ?_) <;> try simp (maxSteps := 1000000) (dsimp := false) (disch := omega) only [go_sem, simprocAttr, decide_eq_true_eq, decide_eq_false_iff_not, Bool.not_eq_true, Bool.not_eq_false, Int.not_lt, Int.not_le] at hb
    repeat' (first | refine wpB_seq ?_ | refine wpB_regionL rfl ?_ | refine wpB_block ?_ | refine wpB_skip ?_ | refine wpB_exit ?_ | refine wpB_ret ?_ | simp (maxSteps := 1000000) (dsimp := false) (disch := omega) only [go_sem, simprocAttr, *])
    try rfl
  by_cases c3 : n.free.length = n.set.length
  case neg =>
    have hz : rightN n = false := by simp [rightN, c3]
    rw [hz]
    repeat' (first | refine wpB_seq ?_ | refine wpB_regionL rfl ?_ | refine wpB_block ?_ | refine wpB_skip ?_ | refine wpB_exit ?_ | refine wpB_ret ?_ | simp (maxSteps := 1000000) (dsimp := false) (disch := omega) only [go_sem, simprocAttr, *, nfaD, u16D, issD])
    refine wpB_cond (by simp (maxSteps := 1000000) (dsimp := false) (disch := omega) only [go_sem, simprocAttr, *]; exact rfl) (fun hb => ?_) (fun hb => ?_) <;> try simp (maxSteps := 1000000) (dsimp := false) (disch := omega) only [go_sem, simprocAttr, decide_eq_true_eq, decide_eq_false_iff_not, Bool.not_eq_true, Bool.not_eq_false, Int.not_lt, Int.not_le] at hb
    repeat' (first | refine wpB_seq ?_ | refine wpB_regionL rfl ?_ | refine wpB_block ?_ | refine wpB_skip ?_ | refine wpB_exit ?_ | refine wpB_ret ?_ | simp (maxSteps := 1000000) (dsimp := false) (disch := omega) only [go_sem, simprocAttr, *])
    try rfl
  by_cases c4 : n.to.length = n.set.length
  case neg =>
    have hz : rightN n = false := by simp [rightN, c4]
    rw [hz]
    repeat' (first | refine wpB_seq ?_ | refine wpB_regionL rfl ?_ | refine wpB_block ?_ | refine wpB_skip ?_ | refine wpB_exit ?_ | refine wpB_ret ?_ | simp (maxSteps := 1000000) (dsimp := false) (disch := omega) only [go_sem, simprocAttr, *, nfaD, u16D, issD, isD])
    refine wpB_cond (by simp (maxSteps := 1000000) (dsimp := false) (disch := omega) only [go_sem, simprocAttr, *]; exact rfl) (fun hb => ?_) (fun hb => ?_) <;> try simp (maxSteps := 1000000) (dsimp := false) (disch := omega) only [go_sem, simprocAttr, decide_eq_true_eq, decide_eq_false_iff_not, Bool.not_eq_true, Bool.not_eq_false, Int.not_lt, Int.not_le] at hb
    repeat' (first | refine wpB_seq ?_ | refine wpB_regionL rfl ?_ | refine wpB_block ?_ | refine wpB_skip ?_ | refine wpB_exit ?_ | refine wpB_ret ?_ | simp (maxSteps := 1000000) (dsimp := false) (disch := omega) only [go_sem, simprocAttr, *])
    try rfl
  by_cases c5 : n.rule.length = n.set.length
  case neg =>
    have hz : rightN n = false := by simp [rightN, c5]
    rw [hz]
    repeat' (first | refine wpB_seq ?_ | refine wpB_regionL rfl ?_ | refine wpB_block ?_ | refine wpB_skip ?_ | refine wpB_exit ?_ | refine wpB_ret ?_ | simp (maxSteps := 1000000) (dsimp := false) (disch := omega) only [go_sem, simprocAttr, *, nfaD, u16D, issD, isD])
    refine wpB_cond (by simp (maxSteps := 1000000) (dsimp := false) (disch := omega) only [go_sem, simprocAttr, *]; exact rfl) (fun hb => ?_) (fun hb => ?_) <;> try simp (maxSteps := 1000000) (dsimp := false) (disch := omega) only [go_sem, simprocAttr, decide_eq_true_eq, decide_eq_false_iff_not, Bool.not_eq_true, Bool.not_eq_false, Int.not_lt, Int.not_le] at hb
    repeat' (first | refine wpB_seq ?_ | refine wpB_regionL rfl ?_ | refine wpB_block ?_ | refine wpB_skip ?_ | refine wpB_exit ?_ | refine wpB_ret ?_ | simp (maxSteps := 1000000) (dsimp := false) (disch := omega) only [go_sem, simprocAttr, *])
    try rfl
  have hz : rightN n = allN (rowOkN n) 0 n.set.length := by simp [rightN, c2, c3, c4, c5]; omega
  rw [hz]
  generalize hG : allN (rowOkN n) 0 n.set.length = G
  clear hz
  repeat' (first | refine wpB_seq ?_ | refine wpB_regionL rfl ?_ | refine wpB_block ?_ | refine wpB_skip ?_ | refine wpB_exit ?_ | refine wpB_ret ?_ | simp (maxSteps := 1000000) (dsimp := false) (disch := omega) only [go_sem, simprocAttr, *, nfaD, u16D, issD, isD])
  refine wpB_cond (by simp (maxSteps := 1000000) (dsimp := false) (disch := omega) only [go_sem, simprocAttr, *]; exact rfl) (fun hb => ?_) (fun hb => ?_) <;> try simp (maxSteps := 1000000) (dsimp := false) (disch := omega) only [go_sem, simprocAttr, decide_eq_true_eq, decide_eq_false_iff_not, Bool.not_eq_true, Bool.not_eq_false, Int.not_lt, Int.not_le] at hb
  repeat' (first | refine wpB_seq ?_ | refine wpB_regionL rfl ?_ | refine wpB_block ?_ | refine wpB_skip ?_ | refine wpB_exit ?_ | refine wpB_ret ?_ | simp (maxSteps := 1000000) (dsimp := false) (disch := omega) only [go_sem, simprocAttr, *, nfaD, u16D, issD, isD])
  let H0 : Heap := [Ob.arr [nfaD n], Ob.arr [.int .i64 n.set.length]]
  refine wpB_loop (fun e H => ∃ j m : Nat, j + m = n.set.length ∧ H = H0 ∧ e 1 = .ptr 0 0 0 ∧ e 3 = .ptr 1 0 0 ∧ e 4 = .fn 132 [.ptr 1 0 0] ∧ e 39 = .int .i64 n.set.length ∧ e 40 = .int .i64 j ∧ G = allN (rowOkN n) j m) (fun e H => n.set.length - natOf (e 40)) ?_ ?_
  · exact ⟨0, n.set.length, by omega, rfl, gs, gs, gs, gs, gs, hG.symm⟩
  clear hG
  rintro e H ⟨j, m, hj, rfl, e1, e3, e4, e39, e40, ha⟩ R hR
  simp only [H0]
  repeat' (first | refine wpB_seq ?_ | refine wpB_regionL rfl ?_ | refine wpB_block ?_ | refine wpB_skip ?_ | refine wpB_exit ?_ | refine wpB_ret ?_ | simp (maxSteps := 1000000) (dsimp := false) (disch := omega) only [go_sem, simprocAttr, *, nfaD, u16D, issD, isD])
  refine wpB_cond (by simp (maxSteps := 1000000) (dsimp := false) (disch := omega) only [go_sem, simprocAttr, *]; exact rfl) (fun hb => ?_) (fun hb => ?_) <;> try simp (maxSteps := 1000000) (dsimp := false) (disch := omega) only [go_sem, simprocAttr, decide_eq_true_eq, decide_eq_false_iff_not, Bool.not_eq_true, Bool.not_eq_false, Int.not_lt, Int.not_le] at hb
  · obtain ⟨m, rfl⟩ : ∃ x, m = x + 1 := ⟨m - 1, by omega⟩
    obtain ⟨s, hs1, hs2⟩ := ex_at (l := n.set) (i := j) 0 (by omega)
    obtain ⟨t, ht1, ht2⟩ := ex_at (l := n.to) (i := j) 0 (by omega)
    obtain ⟨ru, hr1, hr2⟩ := ex_at (l := n.rule) (i := j) 0 (by omega)
    obtain ⟨fr, hf1, hf2⟩ := ex_at (l := n.free) (i := j) [] (by omega)
    have hrow : allN (rowOkN n) j (m + 1) = ((!(decide (s ≠ 0) && !isS n.set.length t) && decide (-1 ≤ ru) && decide (ru < 16) && fr.all (isS n.set.length)) && allN (rowOkN n) (j + 1) m) := by simp only [allN, rowOkN, hs2, ht2, hr2, hf2]
    rw [hrow] at ha
    clear hrow hs2 ht2 hr2 hf2
    rcases (by by_cases hs0 : s = 0; exact .inl hs0; by_cases hi : isS n.set.length t = true; exact .inr (.inr ⟨hs0, hi⟩); exact .inr (.inl ⟨hs0, by simpa using hi⟩) : s = 0 ∨ (s ≠ 0 ∧ isS n.set.length t = false) ∨ (s ≠ 0 ∧ isS n.set.length t = true)) with hs0 | ⟨hs0, hi⟩ | ⟨hs0, hi⟩
    rotate_left
    · have : G = false := by rw [ha, hi]; simp [hs0]
      rw [this]
      clear ha this
      repeat' (first | refine wpB_seq ?_ | refine wpB_regionL rfl ?_ | refine wpB_block ?_ | refine wpB_skip ?_ | refine wpB_exit ?_ | refine wpB_ret ?_ | simp (maxSteps := 1000000) (dsimp := false) (disch := omega) only [go_sem, simprocAttr, *, nfaD, u16D, issD, isD])
      refine evB_state bo132 rfl rfl (right1_ok _ n.set.length _ _ rfl) ?_ (fun _ _ h => h.elim)
      rintro d H' ⟨rfl, rfl⟩
      simp (maxSteps := 1000000) (dsimp := false) (disch := omega) only [go_sem, simprocAttr, *]
      refine wpB_cond (by simp (maxSteps := 1000000) (dsimp := false) (disch := omega) only [go_sem, simprocAttr, *]; exact rfl) (fun hb2 => ?_) (fun hb2 => ?_) <;> try simp (maxSteps := 1000000) (dsimp := false) (disch := omega) only [go_sem, simprocAttr, decide_eq_true_eq, decide_eq_false_iff_not, Bool.not_eq_true, Bool.not_eq_false, Int.not_lt, Int.not_le] at hb2
      repeat' (first | refine wpB_seq ?_ | refine wpB_regionL rfl ?_ | refine wpB_block ?_ | refine wpB_skip ?_ | refine wpB_exit ?_ | refine wpB_ret ?_ | simp (maxSteps := 1000000) (dsimp := false) (disch := omega) only [go_sem, simprocAttr, *])
      try rfl
    · replace ha : G = ((decide (-1 ≤ ru) && decide (ru < 16) && fr.all (isS n.set.length)) && allN (rowOkN n) (j + 1) m) := by rw [ha, hi]; simp [hs0]
      rcases (by by_cases h1 : ru < -1; exact .inl h1; by_cases h2 : ru < 16; exact .inr (.inr ⟨h1, h2⟩); exact .inr (.inl ⟨h1, h2⟩) : ru < -1 ∨ (¬ ru < -1 ∧ ¬ ru < 16) ∨ (¬ ru < -1 ∧ ru < 16)) with h1 | ⟨h1, h2⟩ | ⟨h1, h2⟩
      · have hx : G = false := by rw [ha]; simp; omega
        rw [hx]
        clear ha hx
        repeat' (first | refine wpB_seq ?_ | refine wpB_regionL rfl ?_ | refine wpB_block ?_ | refine wpB_skip ?_ | refine wpB_exit ?_ | refine wpB_ret ?_ | simp (maxSteps := 1000000) (dsimp := false) (disch := omega) only [go_sem, simprocAttr, *, nfaD, u16D, issD, isD])
        refine evB_state bo132 rfl rfl (right1_ok _ n.set.length _ _ rfl) ?_ (fun _ _ h => h.elim); rintro d H' ⟨rfl, rfl⟩; simp (maxSteps := 1000000) (dsimp := false) (disch := omega) only [go_sem, simprocAttr, *]
        refine wpB_cond (by simp (maxSteps := 1000000) (dsimp := false) (disch := omega) only [go_sem, simprocAttr, *]; exact rfl) (fun hb2 => ?_) (fun hb2 => ?_) <;> try simp (maxSteps := 1000000) (dsimp := false) (disch := omega) only [go_sem, simprocAttr, decide_eq_true_eq, decide_eq_false_iff_not, Bool.not_eq_true, Bool.not_eq_false, Int.not_lt, Int.not_le] at hb2
        repeat' (first | refine wpB_seq ?_ | refine wpB_regionL rfl ?_ | refine wpB_block ?_ | refine wpB_skip ?_ | refine wpB_exit ?_ | refine wpB_ret ?_ | simp (maxSteps := 1000000) (dsimp := false) (disch := omega) only [go_sem, simprocAttr, *])
        try rfl
      · have hx : G = false := by rw [ha]; simp; omega
        rw [hx]
        clear ha hx
        repeat' (first | refine wpB_seq ?_ | refine wpB_regionL rfl ?_ | refine wpB_block ?_ | refine wpB_skip ?_ | refine wpB_exit ?_ | refine wpB_ret ?_ | simp (maxSteps := 1000000) (dsimp := false) (disch := omega) only [go_sem, simprocAttr, *, nfaD, u16D, issD, isD])
        refine evB_state bo132 rfl rfl (right1_ok _ n.set.length _ _ rfl) ?_ (fun _ _ h => h.elim); rintro d H' ⟨rfl, rfl⟩; simp (maxSteps := 1000000) (dsimp := false) (disch := omega) only [go_sem, simprocAttr, *]
        refine wpB_cond (by simp (maxSteps := 1000000) (dsimp := false) (disch := omega) only [go_sem, simprocAttr, *]; exact rfl) (fun hb2 => ?_) (fun hb2 => ?_) <;> try simp (maxSteps := 1000000) (dsimp := false) (disch := omega) only [go_sem, simprocAttr, decide_eq_true_eq, decide_eq_false_iff_not, Bool.not_eq_true, Bool.not_eq_false, Int.not_lt, Int.not_le] at hb2
        repeat' (first | refine wpB_seq ?_ | refine wpB_regionL rfl ?_ | refine wpB_block ?_ | refine wpB_skip ?_ | refine wpB_exit ?_ | refine wpB_ret ?_ | simp (maxSteps := 1000000) (dsimp := false) (disch := omega) only [go_sem, simprocAttr, *])
        try rfl
      · replace ha : G = (fr.all (isS n.set.length) && allN (rowOkN n) (j + 1) m) := by rw [ha, show decide (-1 ≤ ru) = true by simp; omega, show decide (ru < 16) = true by simp; omega]; rfl
        repeat' (first | refine wpB_seq ?_ | refine wpB_regionL rfl ?_ | refine wpB_block ?_ | refine wpB_skip ?_ | refine wpB_exit ?_ | refine wpB_ret ?_ | simp (maxSteps := 1000000) (dsimp := false) (disch := omega) only [go_sem, simprocAttr, *, nfaD, u16D, issD, isD])
        refine evB_state bo132 rfl rfl (right1_ok _ n.set.length _ _ rfl) ?_ (fun _ _ h => h.elim); rintro d H' ⟨rfl, rfl⟩; simp (maxSteps := 1000000) (dsimp := false) (disch := omega) only [go_sem, simprocAttr, *]
        refine wpB_cond (by simp (maxSteps := 1000000) (dsimp := false) (disch := omega) only [go_sem, simprocAttr, *]; exact rfl) (fun hb2 => ?_) (fun hb2 => ?_) <;> try simp (maxSteps := 1000000) (dsimp := false) (disch := omega) only [go_sem, simprocAttr, decide_eq_true_eq, decide_eq_false_iff_not, Bool.not_eq_true, Bool.not_eq_false, Int.not_lt, Int.not_le] at hb2
        repeat' (first | refine wpB_seq ?_ | refine wpB_regionL rfl ?_ | refine wpB_block ?_ | refine wpB_skip ?_ | refine wpB_exit ?_ | refine wpB_ret ?_ | simp (maxSteps := 1000000) (dsimp := false) (disch := omega) only [go_sem, simprocAttr, *, nfaD, u16D, issD, isD])
        have hfl : fr.length ≤ 1000000 := hf fr (List.mem_of_getElem? hf1)
        have hi0 : G = ((fr.drop 0).all (isS n.set.length) && allN (rowOkN n) (j + 1) m) := ha
        clear ha
        refine wpB_loop (fun e H => ∃ i : Nat, i ≤ fr.length ∧ H = H0 ∧ e 1 = .ptr 0 0 0 ∧ e 3 = .ptr 1 0 0 ∧ e 4 = .fn 132 [.ptr 1 0 0] ∧ e 39 = .int .i64 n.set.length ∧ e 40 = .int .i64 j ∧ e 79 = isD fr ∧ e 80 = .int .i64 fr.length ∧ e 81 = .int .i64 i ∧ G = ((fr.drop i).all (isS n.set.length) && allN (rowOkN n) (j + 1) m)) (fun e H => fr.length - natOf (e 81)) ?_ ?_
        · exact ⟨0, Nat.zero_le _, rfl, gs, gs, gs, gs, gs, by simp (maxSteps := 1000000) (dsimp := false) (disch := omega) only [go_sem, simprocAttr, *, isD], gs, gs, hi0⟩
        · clear hi0
          rintro e' H ⟨i, hi, rfl, e1, e3, e4, e39, e40, e79, e80, e81, ha⟩ R2 hR2
          simp only [H0]
          repeat' (first | refine wpB_seq ?_ | refine wpB_regionL rfl ?_ | refine wpB_block ?_ | refine wpB_skip ?_ | refine wpB_exit ?_ | refine wpB_ret ?_ | simp (maxSteps := 1000000) (dsimp := false) (disch := omega) only [go_sem, simprocAttr, *])
          refine wpB_cond (by simp (maxSteps := 1000000) (dsimp := false) (disch := omega) only [go_sem, simprocAttr, *]; exact rfl) (fun hb3 => ?_) (fun hb3 => ?_) <;> try simp (maxSteps := 1000000) (dsimp := false) (disch := omega) only [go_sem, simprocAttr, decide_eq_true_eq, decide_eq_false_iff_not, Bool.not_eq_true, Bool.not_eq_false, Int.not_lt, Int.not_le] at hb3
          · rw [allL_drop hb3] at ha
            repeat' (first | refine wpB_seq ?_ | refine wpB_regionL rfl ?_ | refine wpB_block ?_ | refine wpB_skip ?_ | refine wpB_exit ?_ | refine wpB_ret ?_ | simp (maxSteps := 1000000) (dsimp := false) (disch := omega) only [go_sem, simprocAttr, *, isD])
            refine evB_state bo132 rfl rfl (right1_ok _ n.set.length _ _ rfl) ?_ (fun _ _ h => h.elim)
            rintro d H' ⟨rfl, rfl⟩
            cases hq : isS n.set.length fr[i] with
            | true =>
              rw [hq, Bool.true_and] at ha
              simp (maxSteps := 1000000) (dsimp := false) (disch := omega) only [go_sem, simprocAttr, *]
              refine wpB_cond (by simp (maxSteps := 1000000) (dsimp := false) (disch := omega) only [go_sem, simprocAttr, *]; exact rfl) (fun hb4 => ?_) (fun hb4 => ?_) <;> try simp (maxSteps := 1000000) (dsimp := false) (disch := omega) only [go_sem, simprocAttr, decide_eq_true_eq, decide_eq_false_iff_not, Bool.not_eq_true, Bool.not_eq_false, Int.not_lt, Int.not_le] at hb4
              repeat' (first | refine wpB_seq ?_ | refine wpB_regionL rfl ?_ | refine wpB_block ?_ | refine wpB_skip ?_ | refine wpB_exit ?_ | refine wpB_ret ?_ | simp (maxSteps := 1000000) (dsimp := false) (disch := omega) only [go_sem, simprocAttr, *])
              refine hR2 _ _ ⟨i + 1, by omega, rfl, gs, gs, gs, gs, gs, gs, gs, gs, ha⟩ ?_
              simp (maxSteps := 1000000) (dsimp := false) (disch := omega) only [go_sem, simprocAttr, *, natOf_int]
            | false =>
              rw [hq, Bool.false_and, Bool.false_and] at ha
              rw [ha]
              simp (maxSteps := 1000000) (dsimp := false) (disch := omega) only [go_sem, simprocAttr, *]
              refine wpB_cond (by simp (maxSteps := 1000000) (dsimp := false) (disch := omega) only [go_sem, simprocAttr, *]; exact rfl) (fun hb4 => ?_) (fun hb4 => ?_) <;> try simp (maxSteps := 1000000) (dsimp := false) (disch := omega) only [go_sem, simprocAttr, decide_eq_true_eq, decide_eq_false_iff_not, Bool.not_eq_true, Bool.not_eq_false, Int.not_lt, Int.not_le] at hb4
              repeat' (first | refine wpB_seq ?_ | refine wpB_regionL rfl ?_ | refine wpB_block ?_ | refine wpB_skip ?_ | refine wpB_exit ?_ | refine wpB_ret ?_ | simp (maxSteps := 1000000) (dsimp := false) (disch := omega) only [go_sem, simprocAttr, *])
              try rfl
          · rw [List.drop_eq_nil_of_le (by omega)] at ha
            have ha' : G = allN (rowOkN n) (j + 1) m := by rw [ha]; rfl
            repeat' (first | refine wpB_seq ?_ | refine wpB_regionL rfl ?_ | refine wpB_block ?_ | refine wpB_skip ?_ | refine wpB_exit ?_ | refine wpB_ret ?_ | simp (maxSteps := 1000000) (dsimp := false) (disch := omega) only [go_sem, simprocAttr, *])
            refine hR _ _ ⟨j + 1, m, by omega, rfl, gs, gs, gs, gs, gs, ha'⟩ ?_
            simp (maxSteps := 1000000) (dsimp := false) (disch := omega) only [go_sem, simprocAttr, *, natOf_int]
    · replace ha : G = ((decide (-1 ≤ ru) && decide (ru < 16) && fr.all (isS n.set.length)) && allN (rowOkN n) (j + 1) m) := by rw [ha]; simp [hs0]
      rcases (by by_cases h1 : ru < -1; exact .inl h1; by_cases h2 : ru < 16; exact .inr (.inr ⟨h1, h2⟩); exact .inr (.inl ⟨h1, h2⟩) : ru < -1 ∨ (¬ ru < -1 ∧ ¬ ru < 16) ∨ (¬ ru < -1 ∧ ru < 16)) with h1 | ⟨h1, h2⟩ | ⟨h1, h2⟩
      · have hx : G = false := by rw [ha]; simp; omega
        rw [hx]
        clear ha hx
        repeat' (first | refine wpB_seq ?_ | refine wpB_regionL rfl ?_ | refine wpB_block ?_ | refine wpB_skip ?_ | refine wpB_exit ?_ | refine wpB_ret ?_ | simp (maxSteps := 1000000) (dsimp := false) (disch := omega) only [go_sem, simprocAttr, *, nfaD, u16D, issD, isD])
        
        refine wpB_cond (by simp (maxSteps := 1000000) (dsimp := false) (disch := omega) only [go_sem, simprocAttr, *]; exact rfl) (fun hb2 => ?_) (fun hb2 => ?_) <;> try simp (maxSteps := 1000000) (dsimp := false) (disch := omega) only [go_sem, simprocAttr, decide_eq_true_eq, decide_eq_false_iff_not, Bool.not_eq_true, Bool.not_eq_false, Int.not_lt, Int.not_le] at hb2
        repeat' (first | refine wpB_seq ?_ | refine wpB_regionL rfl ?_ | refine wpB_block ?_ | refine wpB_skip ?_ | refine wpB_exit ?_ | refine wpB_ret ?_ | simp (maxSteps := 1000000) (dsimp := false) (disch := omega) only [go_sem, simprocAttr, *])
        try rfl
      · have hx : G = false := by rw [ha]; simp; omega
        rw [hx]
        clear ha hx
        repeat' (first | refine wpB_seq ?_ | refine wpB_regionL rfl ?_ | refine wpB_block ?_ | refine wpB_skip ?_ | refine wpB_exit ?_ | refine wpB_ret ?_ | simp (maxSteps := 1000000) (dsimp := false) (disch := omega) only [go_sem, simprocAttr, *, nfaD, u16D, issD, isD])
        
        refine wpB_cond (by simp (maxSteps := 1000000) (dsimp := false) (disch := omega) only [go_sem, simprocAttr, *]; exact rfl) (fun hb2 => ?_) (fun hb2 => ?_) <;> try simp (maxSteps := 1000000) (dsimp := false) (disch := omega) only [go_sem, simprocAttr, decide_eq_true_eq, decide_eq_false_iff_not, Bool.not_eq_true, Bool.not_eq_false, Int.not_lt, Int.not_le] at hb2
        repeat' (first | refine wpB_seq ?_ | refine wpB_regionL rfl ?_ | refine wpB_block ?_ | refine wpB_skip ?_ | refine wpB_exit ?_ | refine wpB_ret ?_ | simp (maxSteps := 1000000) (dsimp := false) (disch := omega) only [go_sem, simprocAttr, *])
        try rfl
      · replace ha : G = (fr.all (isS n.set.length) && allN (rowOkN n) (j + 1) m) := by rw [ha, show decide (-1 ≤ ru) = true by simp; omega, show decide (ru < 16) = true by simp; omega]; rfl
        repeat' (first | refine wpB_seq ?_ | refine wpB_regionL rfl ?_ | refine wpB_block ?_ | refine wpB_skip ?_ | refine wpB_exit ?_ | refine wpB_ret ?_ | simp (maxSteps := 1000000) (dsimp := false) (disch := omega) only [go_sem, simprocAttr, *, nfaD, u16D, issD, isD])
        
        refine wpB_cond (by simp (maxSteps := 1000000) (dsimp := false) (disch := omega) only [go_sem, simprocAttr, *]; exact rfl) (fun hb2 => ?_) (fun hb2 => ?_) <;> try simp (maxSteps := 1000000) (dsimp := false) (disch := omega) only [go_sem, simprocAttr, decide_eq_true_eq, decide_eq_false_iff_not, Bool.not_eq_true, Bool.not_eq_false, Int.not_lt, Int.not_le] at hb2
        repeat' (first | refine wpB_seq ?_ | refine wpB_regionL rfl ?_ | refine wpB_block ?_ | refine wpB_skip ?_ | refine wpB_exit ?_ | refine wpB_ret ?_ | simp (maxSteps := 1000000) (dsimp := false) (disch := omega) only [go_sem, simprocAttr, *, nfaD, u16D, issD, isD])
        have hfl : fr.length ≤ 1000000 := hf fr (List.mem_of_getElem? hf1)
        have hi0 : G = ((fr.drop 0).all (isS n.set.length) && allN (rowOkN n) (j + 1) m) := ha
        clear ha
        refine wpB_loop (fun e H => ∃ i : Nat, i ≤ fr.length ∧ H = H0 ∧ e 1 = .ptr 0 0 0 ∧ e 3 = .ptr 1 0 0 ∧ e 4 = .fn 132 [.ptr 1 0 0] ∧ e 39 = .int .i64 n.set.length ∧ e 40 = .int .i64 j ∧ e 79 = isD fr ∧ e 80 = .int .i64 fr.length ∧ e 81 = .int .i64 i ∧ G = ((fr.drop i).all (isS n.set.length) && allN (rowOkN n) (j + 1) m)) (fun e H => fr.length - natOf (e 81)) ?_ ?_
        · exact ⟨0, Nat.zero_le _, rfl, gs, gs, gs, gs, gs, by simp (maxSteps := 1000000) (dsimp := false) (disch := omega) only [go_sem, simprocAttr, *, isD], gs, gs, hi0⟩
        · clear hi0
          rintro e' H ⟨i, hi, rfl, e1, e3, e4, e39, e40, e79, e80, e81, ha⟩ R2 hR2
          simp only [H0]
          repeat' (first | refine wpB_seq ?_ | refine wpB_regionL rfl ?_ | refine wpB_block ?_ | refine wpB_skip ?_ | refine wpB_exit ?_ | refine wpB_ret ?_ | simp (maxSteps := 1000000) (dsimp := false) (disch := omega) only [go_sem, simprocAttr, *])
          refine wpB_cond (by simp (maxSteps := 1000000) (dsimp := false) (disch := omega) only [go_sem, simprocAttr, *]; exact rfl) (fun hb3 => ?_) (fun hb3 => ?_) <;> try simp (maxSteps := 1000000) (dsimp := false) (disch := omega) only [go_sem, simprocAttr, decide_eq_true_eq, decide_eq_false_iff_not, Bool.not_eq_true, Bool.not_eq_false, Int.not_lt, Int.not_le] at hb3
          · rw [allL_drop hb3] at ha
            repeat' (first | refine wpB_seq ?_ | refine wpB_regionL rfl ?_ | refine wpB_block ?_ | refine wpB_skip ?_ | refine wpB_exit ?_ | refine wpB_ret ?_ | simp (maxSteps := 1000000) (dsimp := false) (disch := omega) only [go_sem, simprocAttr, *, isD])
            refine evB_state bo132 rfl rfl (right1_ok _ n.set.length _ _ rfl) ?_ (fun _ _ h => h.elim)
            rintro d H' ⟨rfl, rfl⟩
            cases hq : isS n.set.length fr[i] with
            | true =>
              rw [hq, Bool.true_and] at ha
              simp (maxSteps := 1000000) (dsimp := false) (disch := omega) only [go_sem, simprocAttr, *]
              refine wpB_cond (by simp (maxSteps := 1000000) (dsimp := false) (disch := omega) only [go_sem, simprocAttr, *]; exact rfl) (fun hb4 => ?_) (fun hb4 => ?_) <;> try simp (maxSteps := 1000000) (dsimp := false) (disch := omega) only [go_sem, simprocAttr, decide_eq_true_eq, decide_eq_false_iff_not, Bool.not_eq_true, Bool.not_eq_false, Int.not_lt, Int.not_le] at hb4
              repeat' (first | refine wpB_seq ?_ | refine wpB_regionL rfl ?_ | refine wpB_block ?_ | refine wpB_skip ?_ | refine wpB_exit ?_ | refine wpB_ret ?_ | simp (maxSteps := 1000000) (dsimp := false) (disch := omega) only [go_sem, simprocAttr, *])
              refine hR2 _ _ ⟨i + 1, by omega, rfl, gs, gs, gs, gs, gs, gs, gs, gs, ha⟩ ?_
              simp (maxSteps := 1000000) (dsimp := false) (disch := omega) only [go_sem, simprocAttr, *, natOf_int]
            | false =>
              rw [hq, Bool.false_and, Bool.false_and] at ha
              rw [ha]
              simp (maxSteps := 1000000) (dsimp := false) (disch := omega) only [go_sem, simprocAttr, *]
              refine wpB_cond (by simp (maxSteps := 1000000) (dsimp := false) (disch := omega) only [go_sem, simprocAttr, *]; exact rfl) (fun hb4 => ?_) (fun hb4 => ?_) <;> try simp (maxSteps := 1000000) (dsimp := false) (disch := omega) only [go_sem, simprocAttr, decide_eq_true_eq, decide_eq_false_iff_not, Bool.not_eq_true, Bool.not_eq_false, Int.not_lt, Int.not_le] at hb4
              repeat' (first | refine wpB_seq ?_ | refine wpB_regionL rfl ?_ | refine wpB_block ?_ | refine wpB_skip ?_ | refine wpB_exit ?_ | refine wpB_ret ?_ | simp (maxSteps := 1000000) (dsimp := false) (disch := omega) only [go_sem, simprocAttr, *])
              try rfl
          · rw [List.drop_eq_nil_of_le (by omega)] at ha
            have ha' : G = allN (rowOkN n) (j + 1) m := by rw [ha]; rfl
            repeat' (first | refine wpB_seq ?_ | refine wpB_regionL rfl ?_ | refine wpB_block ?_ | refine wpB_skip ?_ | refine wpB_exit ?_ | refine wpB_ret ?_ | simp (maxSteps := 1000000) (dsimp := false) (disch := omega) only [go_sem, simprocAttr, *])
            refine hR _ _ ⟨j + 1, m, by omega, rfl, gs, gs, gs, gs, gs, ha'⟩ ?_
            simp (maxSteps := 1000000) (dsimp := false) (disch := omega) only [go_sem, simprocAttr, *, natOf_int]
  · obtain rfl : m = 0 := by omega
    have : G = true := ha
    rw [this]
    repeat' (first | refine wpB_seq ?_ | refine wpB_regionL rfl ?_ | refine wpB_block ?_ | refine wpB_skip ?_ | refine wpB_exit ?_ | refine wpB_ret ?_ | simp (maxSteps := 1000000) (dsimp := false) (disch := omega) only [go_sem, simprocAttr, *])
    try rfl
def intsOf (k : IntKind) : List D → Option (List Int)
  | [] => some []
  | .int k' x :: r => if k' = k then (intsOf k r).map (x :: ·) else none
  | _ => none
def rowsOf : List D → Option (List (List Int))
  | [] => some []
  | .sl false xs :: r => (intsOf .i64 xs).bind fun l => (rowsOf r).map (l :: ·)
  | _ => none
def nfaOf : D → Option Nfa
  | .agg [.sl false a, .sl false b, .sl false c, .sl false d] => (rowsOf a).bind fun a => (intsOf .u16 b).bind fun b => (intsOf .i64 c).bind fun c => (intsOf .i64 d).map fun d => ⟨a, b, c, d⟩
  | _ => none
theorem intsOf_eq {k : IntKind} : ∀ {xs : List D} {l : List Int}, intsOf k xs = some l → xs = l.map (.int k)
  | [], l, h => by simp [intsOf] at h; subst h; rfl
  | x :: xs, l, h => by
    unfold intsOf at h
    split at h
    · rename_i e; cases e
    · rename_i k' y r e
      cases e
      split at h
      · rename_i hk
        subst hk
        cases hr : intsOf k' xs with
        | none => simp [hr] at h
        | some l' => simp [hr] at h; subst h; rw [intsOf_eq hr]; rfl
      · cases h
    · cases h
theorem rowsOf_eq : ∀ {xs : List D} {l : List (List Int)}, rowsOf xs = some l → xs = l.map isD
  | [], l, h => by simp [rowsOf] at h; subst h; rfl
  | x :: xs, l, h => by
    unfold rowsOf at h
    split at h
    · rename_i e; cases e
    · rename_i ys r e
      cases e
      cases hy : intsOf .i64 ys with
      | none => simp [hy] at h
      | some a =>
        cases hr : rowsOf xs with
        | none => simp [hy, hr] at h
        | some l' => simp [hy, hr] at h; subst h; rw [rowsOf_eq hr, intsOf_eq hy]; rfl
    · cases h
theorem nfaOf_eq {x : D} {n : Nfa} (h : nfaOf x = some n) : x = nfaD n := by
  unfold nfaOf at h
  split at h
  · rename_i a b c d
    cases h1 : rowsOf a with
    | none => simp [h1] at h
    | some a' =>
      cases h2 : intsOf .u16 b with
      | none => simp [h1, h2] at h
      | some b' =>
        cases h3 : intsOf .i64 c with
        | none => simp [h1, h2, h3] at h
        | some c' =>
          cases h4 : intsOf .i64 d with
          | none => simp [h1, h2, h3, h4] at h
          | some d' =>
            simp [h1, h2, h3, h4] at h
            subst h
            rw [rowsOf_eq h1, intsOf_eq h2, intsOf_eq h3, intsOf_eq h4]
            rfl
  · cases h
/-- told at once -/
def rightG : List D → List Ob → Option D
  | [x], [] => (nfaOf x).bind fun n => if n.set.length ≤ 1000000 ∧ (n.free.all fun l => decide (l.length ≤ 1000000)) = true then some (.bool (rightN n)) else none
  | _, _ => none
theorem mixed : Tryz.prog.follows .mixedOrders = true := by kernel_rfl
theorem right_calls [Base] {args : List D} {H : Heap} {d : D} (h : rightG args ((args.flatMap objsD).map (hget H)) = some d) {ρ : Rho} {im : Im} {w : World} {vs : List Value} (hR : Rel ρ im H w) (hvs : RepA ρ H.length im vs args) : Calls Tryz.prog 107 ⟨vs⟩ w (OutR ρ im H w (.ok d H)) := by
  unfold rightG at h
  split at h
  · rename_i x _
    cases hn : nfaOf x with
    | none => simp [hn] at h
    | some n =>
      simp only [hn, Option.bind_some] at h
      split at h
      · rename_i hc
        cases h
        have hx := nfaOf_eq hn
        subst hx
        exact calls_of_pure mixed primR bo107 (nright_ok n hc.1 (fun l hl => by simpa using List.all_eq_true.1 hc.2 l hl)) (strip1 (strip_nfa n)) hR hvs
      · cases h
  · cases h
end Go.Proofs.W
end
/- Functions of Go's library on texts, taken as they are: by the shelf's contracts. -/
section
set_option linter.unusedVariables false
set_option linter.unusedSimpArgs false
namespace Vm
open Go Go.RowKit
variable [Base]

/-- one function that is taken as it is -/
def PrimAt (P : Program) (f : FuncId) (p : List D → Heap → Option R) : Prop :=
  ∀ (args : List D) (H : Heap) (r : R), p args H = some r → ∀ (ρ : Rho) (im : Im) (w : World) (vs : List Value), Rel ρ im H w → RepA ρ H.length im vs args → Calls P f ⟨vs⟩ w (OutR ρ im H w r)

/-- a text that is not too long for the shelf -/
def shortS (s : List UInt8) : Bool := s.length < 4294967281
def pSplit : List D → Heap → Option R
  | [.str s, .str sep], H => if shortS s = true ∧ 1 ≤ sep.length then some (.ok (.vec H.length 0 (Lib.split s sep).length) (H ++ [.arr ((Lib.split s sep).map .str)])) else none
  | _, _ => none
def pCount : List D → Heap → Option R
  | [.str s, .str sep], H => if shortS s = true ∧ 1 ≤ sep.length then some (.ok (.int .i64 (Lib.count s sep)) H) else none
  | _, _ => none
def pCut : List D → Heap → Option R
  | [.str s, .str sep], H => if shortS s = true then some (.ok (.tup [.str (Lib.cut s sep).1, .str (Lib.cut s sep).2.1, .bool (Lib.cut s sep).2.2]) H) else none
  | _, _ => none
def pCutSuffix : List D → Heap → Option R
  | [.str s, .str p], H => if shortS s = true then some (.ok (.tup [.str (Lib.trimSuffix s p), .bool (Lib.hasSuffix s p)]) H) else none
  | _, _ => none
def pIndexByte : List D → Heap → Option R
  | [.str s, .int .u8 c], H => some (.ok (.int .i64 (Lib.indexByte s c.toNat.toUInt8)) H)
  | _, _ => none

section
variable {P : Program} {ρ : Rho} {im : Im} {H : Heap} {w w' : World} {f : FuncId} {g : Nat}
omit [Base] in
theorem str_inv {v : Value} {s : List UInt8} {n : Nat} (h : Rep ρ n im v (.str s)) : ∃ b : ByteArray, v = .string b ∧ b.data.toList = s := by
  cases h with
  | str b => exact ⟨b, rfl, rfl⟩
omit [Base] in
theorem int_inv {v : Value} {k : IntKind} {m : Int} {n : Nat} (h : Rep ρ n im v (.int k m)) : v = .int k m := by
  cases h; rfl
omit [Base] in
theorem str_mk (l : List UInt8) {n : Nat} : Rep ρ n im (.string ⟨l.toArray⟩) (.str l) := by
  have := Rep.str (ρ := ρ) (n := n) (im := im) ⟨l.toArray⟩
  simpa using this
theorem OutR.same (hR : Rel ρ im H w) {v : Value} {d : D} (hv : Rep ρ H.length im v d) : OutR ρ im H w (.ok d H) (.returned v) w := .ok ρ im H w v d (Mv.refl hR) hv
theorem OutR.drewN (hR : Rel ρ im H w) {v : Value} {d : D} {n : Nat} (hv : Rep ρ H.length im v d) : OutR ρ im H w (.ok d H) (.returned v) (w.drewN n) :=
  .ok ρ im H _ v d ⟨hR.world fun _ _ => rfl, ImLe.refl _, Tr.world (fun _ _ => rfl) (Nat.le_refl _) rfl rfl rfl, fun _ _ _ h => .inl h⟩ hv
omit [Base] in
theorem size_list (s : ByteArray) : s.data.toList.length = s.size := by rw [Array.length_toList]; rfl
theorem base_cell (hR : Rel ρ im H w) {v : Value} (h : Base.B g 0 = some v) : w.cell? ⟨g, 0, none⟩ = some v := hR.imc _ _ _ (hR.base _ _ _ h)

theorem pIndexByte_at (hc : ∀ (s : ByteArray) (c : Int) (w : World), Calls P f #[.string s, .int .u8 c] w fun e w' => e = .returned (.int .i64 (Lib.indexByte s.data.toList c.toNat.toUInt8)) ∧ w' = w) : PrimAt P f pIndexByte := by
  intro args H r h ρ im w vs hR hvs
  unfold pIndexByte at h
  split at h
  · rename_i s c
    cases h
    obtain ⟨v, u, rfl, h1, h2⟩ := hvs.two
    obtain ⟨b, rfl, rfl⟩ := str_inv h1
    obtain rfl := int_inv h2
    refine (hc b c w).mono ?_
    rintro e w' ⟨rfl, rfl⟩
    exact OutR.same hR (.int _ _)
  · cases h
theorem pCutSuffix_at (hc : ∀ (s p : ByteArray) (w : World), s.size ≤ 9223372036854775807 → Calls P f #[.string s, .string p] w fun e w' => e = .returned (.tuple #[.string ⟨(Lib.trimSuffix s.data.toList p.data.toList).toArray⟩, .bool (Lib.hasSuffix s.data.toList p.data.toList)]) ∧ w' = w) : PrimAt P f pCutSuffix := by
  intro args H r h ρ im w vs hR hvs
  unfold pCutSuffix at h
  split at h
  · rename_i s c
    split at h
    · rename_i hs
      cases h
      obtain ⟨v, u, rfl, h1, h2⟩ := hvs.two
      obtain ⟨b, rfl, rfl⟩ := str_inv h1
      obtain ⟨q, rfl, rfl⟩ := str_inv h2
      have hs' : b.size < 4294967281 := by simpa [shortS, size_list] using hs
      refine (hc b q w (by omega)).mono ?_
      rintro e w' ⟨rfl, rfl⟩
      exact OutR.same hR (.tup _ _ (.cons _ _ _ _ (str_mk _) (.cons _ _ _ _ (.bool _) .nil)))
    · cases h
  · cases h
theorem pCut_at (hB : ∃ m, Base.B g 0 = some (.int .i64 m)) (hc : ∀ (s sep : ByteArray) (m : Int) (w : World), s.size < 4294967281 → w.cell? ⟨g, 0, none⟩ = some (.int .i64 m) →
    Calls P f #[.string s, .string sep] w fun e w' => e = .returned (.tuple #[.string ⟨(Lib.cut s.data.toList sep.data.toList).1.toArray⟩, .string ⟨(Lib.cut s.data.toList sep.data.toList).2.1.toArray⟩, .bool (Lib.cut s.data.toList sep.data.toList).2.2]) ∧ ∃ n, w' = w.drewN n) : PrimAt P f pCut := by
  obtain ⟨m, hB⟩ := hB
  intro args H r h ρ im w vs hR hvs
  unfold pCut at h
  split at h
  · rename_i s c
    split at h
    · rename_i hs
      cases h
      obtain ⟨v, u, rfl, h1, h2⟩ := hvs.two
      obtain ⟨b, rfl, rfl⟩ := str_inv h1
      obtain ⟨q, rfl, rfl⟩ := str_inv h2
      have hs' : b.size < 4294967281 := by simpa [shortS, size_list] using hs
      refine (hc b q m w hs' (base_cell hR hB)).mono ?_
      rintro e w' ⟨rfl, n, rfl⟩
      exact OutR.drewN hR (.tup _ _ (.cons _ _ _ _ (str_mk _) (.cons _ _ _ _ (str_mk _) (.cons _ _ _ _ (.bool _) .nil))))
    · cases h
  · cases h
theorem pCount_at (hB : ∃ m, Base.B g 0 = some (.int .i64 m)) (hc : ∀ (s sep : ByteArray) (m : Int) (w : World), s.size < 4294967281 → w.cell? ⟨g, 0, none⟩ = some (.int .i64 m) → 1 ≤ sep.size →
    Calls P f #[.string s, .string sep] w fun e w' => e = .returned (.int .i64 (Lib.countB s sep)) ∧ w' = w) : PrimAt P f pCount := by
  obtain ⟨m, hB⟩ := hB
  intro args H r h ρ im w vs hR hvs
  unfold pCount at h
  split at h
  · rename_i s c
    split at h
    · rename_i hs
      obtain ⟨hs, hq⟩ := hs
      cases h
      obtain ⟨v, u, rfl, h1, h2⟩ := hvs.two
      obtain ⟨b, rfl, rfl⟩ := str_inv h1
      obtain ⟨q, rfl, rfl⟩ := str_inv h2
      have hs' : b.size < 4294967281 := by simpa [shortS, size_list] using hs
      refine (hc b q m w hs' (base_cell hR hB) (by simpa [size_list] using hq)).mono ?_
      rintro e w' ⟨rfl, rfl⟩
      exact OutR.same hR (.int _ _)
    · cases h
  · cases h
omit [Base] in
theorem strs_rep {n : Nat} : ∀ (l : List ByteArray), RepL ρ n im (l.map Value.string) (flatC ((l.map (·.data.toList)).map D.str))
  | [] => .nil
  | b :: l => by
    simp only [List.map_cons, flatC, List.flatMap_cons, D.cells, List.cons_append, List.nil_append]
    exact .cons _ _ _ _ rfl (.str b) (strs_rep l)
theorem pSplit_at {t : TypeId} (hB : ∃ m, Base.B g 0 = some (.int .i64 m)) (hc : ∀ (s sep : ByteArray) (m : Int) (w : World), s.size < 4294967281 → w.cell? ⟨g, 0, none⟩ = some (.int .i64 m) → 1 ≤ sep.size →
    Calls P f #[.string s, .string sep] w fun e w' => e = .returned (.slice (some ⟨w.heap.size, 0, none⟩) (Lib.countB s sep + 1) (Lib.countB s sep + 1)) ∧ w' = w.alloc (.cells ((Lib.splitB sep 0 (Lib.countB s sep) s).map Value.string).toArray t)) : PrimAt P f pSplit := by
  obtain ⟨m, hB⟩ := hB
  intro args H r h ρ im w vs hR hvs
  unfold pSplit at h
  split at h
  · rename_i s c
    split at h
    · rename_i hs
      obtain ⟨hs, hq⟩ := hs
      cases h
      obtain ⟨v, u, rfl, h1, h2⟩ := hvs.two
      obtain ⟨b, rfl, rfl⟩ := str_inv h1
      obtain ⟨q, rfl, rfl⟩ := str_inv h2
      have hs' : b.size < 4294967281 := by simpa [shortS, size_list] using hs
      have hq' : 1 ≤ q.size := by simpa [size_list] using hq
      refine (hc b q m w hs' (base_cell hR hB) hq').mono ?_
      rintro e w' ⟨rfl, rfl⟩
      have hlen : (Lib.splitB q 0 (Lib.countB b q) b).length = Lib.countB b q + 1 := Lib.splitB_all q hq' 0 _ b rfl
      have hsp : Lib.split b.data.toList q.data.toList = (Lib.splitB q 0 (Lib.countB b q) b).map (·.data.toList) := (Lib.splitB_data q 0 _ b).symm
      generalize hL : Lib.splitB q 0 (Lib.countB b q) b = L at hlen hsp
      rw [hsp]
      have hrel := hR.alloc (sz := 1) (cap := Lib.countB b q + 1) (xs := (L.map (·.data.toList)).map D.str) (c := (L.map Value.string).toArray) (t := t) (fz := (0, 0)) (by simp [hlen]) (by simp [D.cells]) (by simp [hlen])
        (by rw [List.take_of_length_le (by simp [hlen])]; exact strs_rep L) (.inr (Nat.le_refl _))
      refine .ok _ im _ _ _ _ ⟨hrel.1, ImLe.refl _, hrel.2, fun _ _ _ h => .inl h⟩ ?_
      have := vec_rep (n := (H ++ [Ob.arr ((L.map (·.data.toList)).map D.str)]).length) (im := im) (ρ := newR ρ H.length ⟨w.heap.size, 1, Lib.countB b q + 1, true⟩) (r := H.length) (m := Lib.countB b q + 1) (by simp) (newR_eq) (Nat.le_refl _)
      simpa [hlen] using this
    · cases h
  · cases h
end
end Vm
end
/- Functions of Go's library on lists of numbers: put in order. -/
section
set_option linter.unusedVariables false
set_option linter.unusedSimpArgs false
namespace Vm
open Go Go.RowKit Go.Sort
def insZ (x : Int) : List Int → List Int
  | [] => [x]
  | y :: l => if x ≤ y then x :: y :: l else y :: insZ x l
def sortZ (zs : List Int) : List Int := zs.foldr insZ []
theorem insZ_perm (x : Int) (l : List Int) : (insZ x l).Perm (x :: l) := by
  induction l with
  | nil => exact .refl _
  | cons y l ih =>
    unfold insZ
    split
    · exact .refl _
    · exact (ih.cons y).trans (.swap x y l)
theorem insZ_sorted (x : Int) (l : List Int) (h : l.Pairwise (· ≤ ·)) : (insZ x l).Pairwise (· ≤ ·) := by
  induction l with
  | nil => simp [insZ]
  | cons y l ih =>
    have h' := List.pairwise_cons.1 h
    unfold insZ
    split
    · rename_i hxy
      refine List.pairwise_cons.2 ⟨fun a ha => ?_, h⟩
      rcases List.mem_cons.1 ha with rfl | ha
      · exact hxy
      · exact Int.le_trans hxy (h'.1 a ha)
    · rename_i hxy
      refine List.pairwise_cons.2 ⟨fun a ha => ?_, ih h'.2⟩
      rcases List.mem_cons.1 ((insZ_perm x l).subset ha) with rfl | ha
      · omega
      · exact h'.1 a ha
theorem sortZ_perm (l : List Int) : (sortZ l).Perm l := by
  induction l with
  | nil => exact .refl _
  | cons x l ih => exact (insZ_perm x _).trans (ih.cons x)
theorem sortZ_sorted (l : List Int) : (sortZ l).Pairwise (· ≤ ·) := by
  induction l with
  | nil => exact .nil
  | cons x l ih => exact insZ_sorted x _ ih
theorem sorted_unique : ∀ {l l' : List Int}, l.Pairwise (· ≤ ·) → l'.Pairwise (· ≤ ·) → l.Perm l' → l = l'
  | [], l', _, _, h => by simpa using h.symm
  | x :: t, [], _, _, h => by simp at h
  | x :: t, y :: t', h1, h2, h => by
    have a1 := List.pairwise_cons.1 h1
    have a2 := List.pairwise_cons.1 h2
    have e : x = y := by
      have m1 : x ∈ y :: t' := h.subset (by simp)
      have m2 : y ∈ x :: t := h.symm.subset (by simp)
      rcases List.mem_cons.1 m1 with e | m1
      · exact e
      · rcases List.mem_cons.1 m2 with e | m2
        · exact e.symm
        · have := a2.1 x m1; have := a1.1 y m2; omega
    subst e
    rw [sorted_unique a1.2 a2.2 (List.Perm.cons_inv h)]
theorem sortZ_eq (zs : List Int) : (zs.mergeSort fun x y => decide (x ≤ y)) = sortZ zs := by
  refine sorted_unique ?_ (sortZ_sorted zs) ((List.mergeSort_perm zs _).trans (sortZ_perm zs).symm)
  have := List.pairwise_mergeSort (le := fun x y : Int => decide (x ≤ y)) (fun a b c h1 h2 => by simp at *; omega) (fun a b => by simp; omega) zs
  simpa using this
variable [Base]

def intsD : List D → Option (List Int)
  | [] => some []
  | .int .i64 n :: r => (intsD r).map (n :: ·)
  | _ => none
omit [Base] in
theorem intsD_eq : ∀ {xs : List D} {zs : List Int}, intsD xs = some zs → xs = zs.map (.int .i64)
  | [], zs, h => by cases h; rfl
  | x :: r, zs, h => by
    unfold intsD at h
    split at h
    · rename_i heq; cases heq
    · rename_i heq
      cases heq
      cases hr : intsD r with
      | none => rw [hr] at h; cases h
      | some l => rw [hr] at h; cases h; rw [intsD_eq hr]; rfl
    · cases h
omit [Base] in
theorem intsD_map (zs : List Int) : intsD (zs.map (.int .i64)) = some zs := by
  induction zs with
  | nil => rfl
  | cons z r ih => simp [intsD, ih]
def pSort : List D → Heap → Option R
  | [.vec r 0 n], H => match hget H r with
    | .arr xs => (intsD xs).bind fun zs => if n = zs.length ∧ zs.length < 4611686018427387904 ∧ 0 < zs.length then some (.ok (.tup []) (H.set r (.arr ((sortZ zs).map (.int .i64))))) else none
    | _ => none
  | [.sl _ []], H => some (.ok (.tup []) H)
  | _, _ => none
section
variable {P : Program} {ρ : Rho} {im : Im} {H : Heap} {w w' : World} {f : FuncId}
omit [Base] in
theorem repL_ints {n : Nat} : ∀ {vs : List Value} {zs : List Int}, RepL ρ n im vs (zs.map (.int .i64)) → vs = zs.map (.int .i64)
  | _, [], h => by cases h; rfl
  | _, z :: r, h => by
    cases h with
    | cons v d vs ds h1 h2 h3 =>
      cases h2
      rw [repL_ints h3]; rfl
omit [Base] in
theorem repL_ints_mk {n : Nat} (zs : List Int) : RepL ρ n im (zs.map (.int .i64)) (zs.map (.int .i64)) := by
  induction zs with
  | nil => exact .nil
  | cons z r ih => exact .cons _ _ _ _ rfl (.int _ _) ih
omit [Base] in
theorem flatC_ints (zs : List Int) : flatC (zs.map (D.int .i64)) = zs.map (.int .i64) := by
  induction zs with
  | nil => rfl
  | cons z r ih => simp only [List.map_cons, flatC, List.flatMap_cons] at *; rw [ih]; rfl
/-- a list of numbers in memory: what the library asks of it, and what is left when it is written anew -/
theorem row_ints (hR : Rel ρ im H w) {r : Nat} (hr2 : r < H.length) {zs : List Int} (hx : hget H r = .arr (zs.map (.int .i64))) (hpos : 0 < zs.length) :
    (ρ r).sz = 1 ∧ zs.length ≤ (ρ r).cap ∧ Holds (Value.int .i64) w (ρ r).b 0 zs.toArray ∧ (ρ r).b < w.heap.size ∧
      ∀ (ts : List Int) (m : Nat), ts.length = zs.length → Mv ρ im H w ρ im (H.set r (.arr (ts.map (.int .i64)))) (putRow (Value.int .i64) (Sort.ahead w m) (ρ r).b 0 ts.toArray) := by
  have hob := hR.obj r hr2
  rw [hx] at hob
  obtain ⟨c, ty, fz, h1, h2, h3, h4, h5, h6⟩ := hob
  have hsz : (ρ r).sz = 1 := by
    cases zs with
    | nil => simp at hpos
    | cons z zr => exact (h3 (.int .i64 z) (by simp)).symm
  rw [hsz, Nat.mul_one, List.length_map, flatC_ints] at h5
  have h5' := repL_ints h5
  rw [hsz, Nat.mul_one] at h2
  rw [List.length_map] at h4
  have hH : Holds (Value.int .i64) w (ρ r).b 0 zs.toArray := by
    intro j hj
    have hj' : j < zs.length := by simpa using hj
    have hjc : j < c.size := by omega
    have e1 : c.toList[j]? = some (.int .i64 zs[j]) := by
      have : (c.toList.take zs.length)[j]? = (zs.map (Value.int .i64))[j]? := by rw [h5']
      rw [List.getElem?_take_of_lt hj'] at this
      rw [this]; simp [hj']
    refine ⟨?_, ?_⟩
    · simp only [World.cell?, h1, Nat.zero_add]
      simp only [Option.isSome_none, Bool.false_eq_true, if_false]
      rw [← Array.getElem?_toList, e1]
      simp [hj']
    · simp only [World.frozen?, h1]
      simp only [Bool.and_eq_false_iff, decide_eq_false_iff_not]
      omega
  have hblk : (ρ r).b < w.heap.size := (Array.getElem?_eq_some_iff.1 h1).1
  refine ⟨hsz, h4, hH, hblk, fun ts m hs => ?_⟩
  have hl : live (hget H r) := by rw [hx]; trivial
  have hrow : (putRow (Value.int .i64) (Sort.ahead w m) (ρ r).b 0 ts.toArray).heap[(ρ r).b]? = some (.cells (putCells (Value.int .i64) 0 ts.toArray c) ty fz) := by
    simp [putRow, mapBlock, Sort.ahead, Array.getElem?_modify, h1, onCells]
  have hoth : ∀ b, b ≠ (ρ r).b → (putRow (Value.int .i64) (Sort.ahead w m) (ρ r).b 0 ts.toArray).heap[b]? = w.heap[b]? := by
    intro b hb
    have : (ρ r).b ≠ b := fun e => hb e.symm
    simp [putRow, mapBlock, Sort.ahead, Array.getElem?_modify, this]
  have htake : (putCells (Value.int .i64) 0 ts.toArray c).toList.take ts.length = ts.map (Value.int .i64) := by
    apply List.ext_getElem?
    intro j
    by_cases hj : j < ts.length
    · rw [List.getElem?_take_of_lt hj, Array.getElem?_toList]
      simp [putCells, hj, show j < c.size by omega]
    · rw [List.getElem?_take_eq_none (by omega), List.getElem?_eq_none (by simp; omega)]
  have hok : ObOk ρ H.length im (putRow (Value.int .i64) (Sort.ahead w m) (ρ r).b 0 ts.toArray) (ρ r) (.arr (ts.map (.int .i64))) := by
    refine ⟨_, ty, fz, hrow, by simp [putCells, h2, hsz], ?_, by simp [hs]; exact h4, ?_, by simpa [putCells] using h6⟩
    · intro x hx'
      obtain ⟨z, -, rfl⟩ := List.mem_map.1 hx'
      rw [hsz]; rfl
    · rw [hsz, Nat.mul_one, List.length_map, flatC_ints, htake]
      exact repL_ints_mk _
  exact ⟨hR.setOb hr2 hl hoth hok, ImLe.refl _, Tr.setOb hr2 hl hoth (by simp [putRow, mapBlock, Sort.ahead]) rfl rfl rfl, fun _ _ _ h => .inl h⟩
theorem pSort_at (hc : ∀ (blk cap : Nat) (zs : List Int) (w : World), Holds (Value.int .i64) w blk 0 zs.toArray → blk < w.heap.size → zs.length < 4611686018427387904 →
      Calls P f #[.slice (some ⟨blk, 0, none⟩) zs.length cap] w fun e w' => e = .returned (.tuple #[]) ∧ ∃ n os, w' = grow (putRow (Value.int .i64) (Sort.ahead w n) blk 0 (zs.mergeSort fun x y => decide (x ≤ y)).toArray) os)
    (hc0 : ∀ (p : Option Addr) (cap : Nat) (w : World), Calls P f #[.slice p 0 cap] w fun e w' => e = .returned (.tuple #[]) ∧ w' = w) : PrimAt P f pSort := by
  intro args H r h ρ im w vs hR hvs
  unfold pSort at h
  split at h
  · rename_i r n
    split at h
    · rename_i xs hx
      cases hz : intsD xs with
      | none => rw [hz] at h; cases h
      | some zs =>
        rw [hz] at h
        simp only [Option.bind_some] at h
        split at h
        · rename_i hn
          obtain ⟨rfl, hlen, hpos⟩ := hn
          cases h
          have hxs := intsD_eq hz
          subst hxs
          cases hvs with
          | cons v d vs ds hv hr =>
            cases hr
            cases hv with
            | vec _ _ _ hr2 hcap =>
              obtain ⟨hsz, hcap2, hH, hblk, hmv⟩ := row_ints hR hr2.lt hx hpos
              rw [Nat.zero_mul]
              refine (hc (ρ r).b _ zs w hH hblk hlen).mono ?_
              rintro e w' ⟨rfl, m, os, hw⟩
              rw [sortZ_eq] at hw
              subst hw
              have m1 := hmv (sortZ zs) m (sortZ_perm zs).length_eq
              have hgrow : ∀ b, b < (putRow (Value.int .i64) (Sort.ahead w m) (ρ r).b 0 (sortZ zs).toArray).heap.size → (grow (putRow (Value.int .i64) (Sort.ahead w m) (ρ r).b 0 (sortZ zs).toArray) os).heap[b]? = (putRow (Value.int .i64) (Sort.ahead w m) (ρ r).b 0 (sortZ zs).toArray).heap[b]? :=
                fun b hb => heap_grow_old _ _ hb
              have m2 := m1.trans ⟨m1.rel.world hgrow, ImLe.refl _, Tr.world hgrow (by simp [grow]) rfl rfl rfl, fun _ _ _ h => .inl h⟩
              exact .ok ρ im _ _ _ _ m2 (.tup [] [] .nil)
        · cases h
    · cases h
  · rename_i f2
    cases h
    cases hvs with
    | cons v d vs ds hv hr =>
      cases hr
      cases hv with
      | sl0 a cap f hf =>
        refine (hc0 a cap w).mono ?_
        rintro e w' ⟨rfl, rfl⟩
        exact OutR.same hR (.tup [] [] .nil)
      | sl b o sz cap f xs vs hs hc' h hf hcap =>
        refine (hc0 _ cap w).mono ?_
        rintro e w' ⟨rfl, rfl⟩
        exact OutR.same hR (.tup [] [] .nil)
  · cases h
/-- each number but once, of those that stand together; what is left over is nothing -/
def compactZ (zs : List Int) : List Int := Lib.compact zs ++ List.replicate (zs.length - (Lib.compact zs).length) 0
def pCompact : List D → Heap → Option R
  | [.vec r 0 n], H => match hget H r with
    | .arr xs => (intsD xs).bind fun zs => if n = zs.length ∧ zs.length < 4611686018427387904 ∧ 0 < zs.length ∧ (Lib.compact zs).length ≤ zs.length then some (.ok (.vec r 0 (Lib.compact zs).length) (H.set r (.arr ((compactZ zs).map (.int .i64))))) else none
    | _ => none
  | [.sl f []], H => some (.ok (.sl f []) H)
  | _, _ => none
theorem pCompact_at (hc : ∀ (blk cap : Nat) (zs : List Int) (w : World), Holds (Value.int .i64) w blk 0 zs.toArray → zs.length ≤ 9223372036854775807 → zs.length ≤ cap →
      Calls P f #[.slice (some ⟨blk, 0, none⟩) zs.length cap] w fun e w' => e = .returned (.slice (some ⟨blk, 0, none⟩) (Lib.compact zs).length cap) ∧ ∃ q, w' = putRow (Value.int .i64) (Sort.ahead w q) blk 0 (Lib.compact zs ++ List.replicate (zs.length - (Lib.compact zs).length) 0).toArray)
    (hc0 : ∀ (p : Option Addr) (cap : Nat) (w : World), Calls P f #[.slice p 0 cap] w fun e w' => e = .returned (.slice p 0 cap) ∧ w' = w) : PrimAt P f pCompact := by
  intro args H r h ρ im w vs hR hvs
  unfold pCompact at h
  split at h
  · rename_i r n
    split at h
    · rename_i xs hx
      cases hz : intsD xs with
      | none => rw [hz] at h; cases h
      | some zs =>
        rw [hz] at h
        simp only [Option.bind_some] at h
        split at h
        · rename_i hn
          obtain ⟨rfl, hlen, hpos, hle⟩ := hn
          cases h
          have hxs := intsD_eq hz
          subst hxs
          cases hvs with
          | cons v d vs ds hv hr =>
            cases hr
            cases hv with
            | vec _ _ _ hr2 hcap =>
              obtain ⟨hsz, hcap2, hH, hblk, hmv⟩ := row_ints hR hr2.lt hx hpos
              rw [Nat.zero_mul]
              refine (hc (ρ r).b _ zs w hH (by omega) (by omega)).mono ?_
              rintro e w' ⟨rfl, q, rfl⟩
              have m1 := hmv (compactZ zs) q (by simp [compactZ]; omega)
              have hrep := Rep.vec (ρ := ρ) (n := (H.set r (.arr ((compactZ zs).map (D.int .i64)))).length) (im := im) r 0 (Lib.compact zs).length (by simpa using hr2) (by omega)
              rw [Nat.zero_mul] at hrep
              exact .ok ρ im _ _ _ _ m1 hrep
        · cases h
    · cases h
  · rename_i f2
    cases h
    cases hvs with
    | cons v d vs ds hv hr =>
      cases hr
      cases hv with
      | sl0 a cap f hf =>
        refine (hc0 a cap w).mono ?_
        rintro e w' ⟨rfl, rfl⟩
        exact OutR.same hR (.sl0 _ _ _ hf)
      | sl b o sz cap f xs vs hs hc' h hf hcap =>
        refine (hc0 _ cap w).mono ?_
        rintro e w' ⟨rfl, rfl⟩
        exact OutR.same hR (.sl0 _ _ _ (fun h => by simpa using hf h))
  · cases h
end
end Vm
end
/- The chapter on words that are cut: the functions that are taken as they are, those that write what others hold; one run. -/
section
set_option maxHeartbeats 4000000
set_option linter.unusedVariables false
set_option linter.unusedSimpArgs false
namespace Go.Proofs.W
open Go Vm Go.Proofs.Zs09

def states : List Nat := [98, 119, 120, 121, 139, 140, 150, 163, 164, 97, 91, 50, 133, 103, 104, 105, 131, 132, 86, 17, 16, 35, 18, 19, 34, 60, 38, 39, 59, 84, 82, 83, 99, 100, 63, 64, 81, 101, 123, 124, 125, 126, 128, 129]
/-- the least rule that ends at some states; -1: none does -/
def ruleL (rs : List D) : List D → Int → Option Int
  | [], out => some out
  | .int .i64 s :: xs, out => if 0 ≤ s then (match rs[s.toNat]? with
    | some (.int .i64 r) => ruleL rs xs (if r ≥ 0 ∧ (out < 0 ∨ r < out) then r else out)
    | _ => none) else none
  | _, _ => none
def ruleG : List D → List Ob → Option D
  | [.ptr _ 0 0, .sl _ xs], [.arr [.agg [_, _, _, .sl _ rs, _, _, _, _]]] => if xs.length ≤ 1000000 then (ruleL rs xs (-1)).map (.int .i64) else none
  | _, _ => none
def A0 : Ann := { mode := fun f => if states.contains f then .state else if f = 14 then .fresh else .pure, prim := fun f =>
  if f = 52 then some pSplit else if f = 51 then some pCount else if f = 76 then some pCut else if f = 77 then some pCutSuffix else if f = 173 then some pIndexByte else if f = 134 then some pSort else if f = 135 then some pCompact else none, fz := fun t => t == 23, rd := fun f => if f = 106 then some ruleG else if f = 107 then some rightG else none, bl := fun f => if f = 63 then some (.add .i64) else if f = 64 then some (.load .i64) else if f = 81 then some (.load .u32) else if f = 101 then some .store else if f = 123 then some .mark0 else if f = 124 then some (.cas .i32) else if f = 125 then some .mark0 else if f = 126 then some .mark1 else if f = 128 then some .mark1 else if f = 129 then some (.add .i32) else none }
def rxq (k s : Int) (l : List D) : D := .agg [.int .u8 k, .int .u16 s, .sl false l]
def iL (l : List Int) : List D := l.map (.int .i64)
def told1 : List D := [.sl false [rxq 2 0 [rxq 1 2 [], rxq 4 0 [rxq 2 0 [rxq 1 16 [], rxq 1 2 []]]], rxq 2 0 [rxq 1 24 [], rxq 4 0 [rxq 1 24 []]]]]
def told2 : D := .tup [.agg [.sl false [.agg (iL [-1, 1, -1, 2, 2, -1, -1, -1, -1, -1, -1, -1, -1, -1, -1, -1]), .agg (iL [-1, -1, -1, -1, 3, -1, -1, -1, -1, -1, -1, -1, -1, -1, -1, -1]), .agg (iL [-1, -1, -1, 4, 4, -1, -1, -1, -1, -1, -1, -1, -1, -1, -1, -1]), .agg (iL [-1, 5, -1, -1, -1, -1, -1, -1, -1, -1, -1, -1, -1, -1, -1, -1]), .agg (iL [-1, -1, -1, 4, 4, -1, -1, -1, -1, -1, -1, -1, -1, -1, -1, -1]), .agg (iL [-1, -1, -1, -1, 3, -1, -1, -1, -1, -1, -1, -1, -1, -1, -1, -1])], .sl false (iL [-1, 0, 1, -1, 1, 0])], .int .i64 0]
theorem told_strip : stripL told1 = some told1 := by rfl
theorem told_run : tells (runF Tryz.prog A0 200 61 told1 []) told2 = true := by kernel_rfl
end Go.Proofs.W
end
/- The chapter on words that are cut: one call told at once; a run. -/
section
set_option maxHeartbeats 4000000
set_option linter.unusedVariables false
set_option linter.unusedSimpArgs false
namespace Go.Proofs.W
open Go Vm Go.Proofs.Zs09

def A : Ann := { mode := A0.mode, prim := fun f => if f = 61 then some (onlyP told1 told2) else A0.prim f, fz := A0.fz, bl := A0.bl, rd := A0.rd }
theorem A_fz (t : TypeId) : A.fz t = (t == 23) := rfl
attribute [go_sem] A_fz
def okTrue : Option R → Bool
  | some (.ok (.bool b) _) => b
  | _ => false
theorem alive_run : okTrue (runF Tryz.prog A 200 7 [] []) = true := by kernel_rfl
end Go.Proofs.W
end
/- Runs that are closed. -/
section
set_option maxHeartbeats 4000000
set_option linter.unusedVariables false
set_option linter.unusedSimpArgs false
namespace Go.Proofs.W
open Go Vm Go.Proofs.Zs09

theorem okTrue_run {f : FuncId} {k : Nat} (h : okTrue (runF Tryz.prog A k f [] []) = true) : PureF Tryz.prog A f [] (.bool true) := by
  cases hr : runF Tryz.prog A k f [] [] with
  | none => rw [hr] at h; cases h
  | some r =>
    rw [hr] at h
    refine ⟨k, r, hr, ?_⟩
    cases r with
    | pan d H => cases h
    | ok d H =>
      cases d <;> simp only [okTrue] at h <;> try (cases h; done)
      subst h; rfl
abbrev Yes (f : FuncId) (args : List D) : Prop := EvF Tryz.prog A f args [] (fun d _ => d = .bool true) (fun _ _ => False)
theorem run_of_yes {f : FuncId} {args : List D} (h : Yes f args) : ∃ k H', runF Tryz.prog A k f args [] = some (.ok (.bool true) H') := by
  obtain ⟨k, r, h1, h2⟩ := h
  cases r with
  | pan d H => exact h2.elim
  | ok d H => exact ⟨k, H, by rw [h1, show d = .bool true from h2]⟩
theorem alive_ok : PureF Tryz.prog A 7 [] (.bool true) := okTrue_run alive_run
end Go.Proofs.W
end
