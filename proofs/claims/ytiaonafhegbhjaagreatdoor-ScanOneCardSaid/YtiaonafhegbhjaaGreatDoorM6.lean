/- Texts that stand behind this claim, one after the other. -/
import Derived.Test.YtiaonafhegbhjaaGreatDoorProg
import Derived.Test.YtiaonafhegbhjaaGreatDoorM5
import Derived.KernelRfl
import Derived.Test.YtiaonafhegbhjaaGreatDoorM3
import Derived.Carry
import Derived.ProofKit
import Derived.Shelf.Strings.Split
import Derived.Shelf.Strings.Cut
import Derived.Shelf.Small.Wraps
import Derived.Shelf.Strings.Prefix
import Derived.Shelf.Sort.Plain
import Derived.Shelf.Slices.CompactI
import Derived.Shelf.Small.Strs
import Derived.Shelf.Strings.Search1
import Derived.Shelf.Strings.Search2
import Derived.Shelf.Strings.Search3
import Derived.Shelf.Strings.Count
import Derived.Shelf.LaysM
import Derived.Shelf.Strings.Shaped
import Derived.Shelf.Unicode.DecodeSlow
import Derived.Ground.Names2Prog
import Derived.Shelf.Slices.In.SortNone
set_option maxHeartbeats 4000000
set_option linter.unusedVariables false
set_option linter.unusedSimpArgs false
section
namespace Go.Proofs.Zso
open Go Vm
theorem sz1 : sizeT Tryz.prog 1 = some 1:=by kernel_rfl
theorem ag1 : isAggT Tryz.prog 1 = some false:=by kernel_rfl
theorem zr1 : zeroT Tryz.prog 1 = some (.niln):=by kernel_rfl
theorem by1 : bytesT Tryz.prog 1 = some 8:=by kernel_rfl
theorem un2 : Tryz.prog.underlying 2 = some (.int .i64):=by kernel_rfl
theorem sz2 : sizeT Tryz.prog 2 = some 1:=by kernel_rfl
theorem ag2 : isAggT Tryz.prog 2 = some false:=by kernel_rfl
theorem zr2 : zeroT Tryz.prog 2 = some (.int .i64 0):=by kernel_rfl
theorem by2 : bytesT Tryz.prog 2 = some 8:=by kernel_rfl
theorem un3 : Tryz.prog.underlying 3 = some (.int .i64):=by kernel_rfl
theorem sz3 : sizeT Tryz.prog 3 = some 1:=by kernel_rfl
theorem ag3 : isAggT Tryz.prog 3 = some false:=by kernel_rfl
theorem zr3 : zeroT Tryz.prog 3 = some (.int .i64 0):=by kernel_rfl
theorem by3 : bytesT Tryz.prog 3 = some 8:=by kernel_rfl
theorem un4 : Tryz.prog.underlying 4 = some .bool:=by kernel_rfl
theorem sz4 : sizeT Tryz.prog 4 = some 1:=by kernel_rfl
theorem ag4 : isAggT Tryz.prog 4 = some false:=by kernel_rfl
theorem zr4 : zeroT Tryz.prog 4 = some (.bool false):=by kernel_rfl
theorem by4 : bytesT Tryz.prog 4 = some 1:=by kernel_rfl
theorem un5 : Tryz.prog.underlying 5 = some (.int .u8):=by kernel_rfl
theorem sz5 : sizeT Tryz.prog 5 = some 1:=by kernel_rfl
theorem ag5 : isAggT Tryz.prog 5 = some false:=by kernel_rfl
theorem zr5 : zeroT Tryz.prog 5 = some (.int .u8 0):=by kernel_rfl
theorem by5 : bytesT Tryz.prog 5 = some 1:=by kernel_rfl
theorem un9 : Tryz.prog.underlying 9 = some .string:=by kernel_rfl
theorem sz9 : sizeT Tryz.prog 9 = some 1:=by kernel_rfl
theorem ag9 : isAggT Tryz.prog 9 = some false:=by kernel_rfl
theorem zr9 : zeroT Tryz.prog 9 = some (.str []):=by kernel_rfl
theorem by9 : bytesT Tryz.prog 9 = some 16:=by kernel_rfl
theorem un21 : Tryz.prog.underlying 21 = some (.int .i32):=by kernel_rfl
theorem sz21 : sizeT Tryz.prog 21 = some 1:=by kernel_rfl
theorem ag21 : isAggT Tryz.prog 21 = some false:=by kernel_rfl
theorem zr21 : zeroT Tryz.prog 21 = some (.int .i32 0):=by kernel_rfl
theorem by21 : bytesT Tryz.prog 21 = some 4:=by kernel_rfl
theorem un22 : Tryz.prog.underlying 22 = some (.slice 48):=by kernel_rfl
theorem sz22 : sizeT Tryz.prog 22 = some 1:=by kernel_rfl
theorem ag22 : isAggT Tryz.prog 22 = some false:=by kernel_rfl
theorem zr22 : zeroT Tryz.prog 22 = some (.sl true []):=by kernel_rfl
theorem by22 : bytesT Tryz.prog 22 = some 24:=by kernel_rfl
theorem el22 : elemT Tryz.prog 22 = some 48:=by kernel_rfl
theorem un23 : Tryz.prog.underlying 23 = some (.slice 3):=by kernel_rfl
theorem sz23 : sizeT Tryz.prog 23 = some 1:=by kernel_rfl
theorem ag23 : isAggT Tryz.prog 23 = some false:=by kernel_rfl
theorem zr23 : zeroT Tryz.prog 23 = some (.sl true []):=by kernel_rfl
theorem by23 : bytesT Tryz.prog 23 = some 24:=by kernel_rfl
theorem el23 : elemT Tryz.prog 23 = some 3:=by kernel_rfl
theorem un27 : Tryz.prog.underlying 27 = some (.pointer 72):=by kernel_rfl
theorem sz27 : sizeT Tryz.prog 27 = some 1:=by kernel_rfl
theorem ag27 : isAggT Tryz.prog 27 = some false:=by kernel_rfl
theorem zr27 : zeroT Tryz.prog 27 = some (.nilp):=by kernel_rfl
theorem by27 : bytesT Tryz.prog 27 = some 8:=by kernel_rfl
theorem un29 : Tryz.prog.underlying 29 = some (.slice 40):=by kernel_rfl
theorem sz29 : sizeT Tryz.prog 29 = some 1:=by kernel_rfl
theorem ag29 : isAggT Tryz.prog 29 = some false:=by kernel_rfl
theorem zr29 : zeroT Tryz.prog 29 = some (.sl true []):=by kernel_rfl
theorem by29 : bytesT Tryz.prog 29 = some 24:=by kernel_rfl
theorem el29 : elemT Tryz.prog 29 = some 40:=by kernel_rfl
theorem un30 : Tryz.prog.underlying 30 = some (.int .i64):=by kernel_rfl
theorem sz30 : sizeT Tryz.prog 30 = some 1:=by kernel_rfl
theorem ag30 : isAggT Tryz.prog 30 = some false:=by kernel_rfl
theorem zr30 : zeroT Tryz.prog 30 = some (.int .i64 0):=by kernel_rfl
theorem by30 : bytesT Tryz.prog 30 = some 8:=by kernel_rfl
theorem sz39 : sizeT Tryz.prog 39 = some 3:=by kernel_rfl
theorem ag39 : isAggT Tryz.prog 39 = some true:=by kernel_rfl
theorem zr39 : zeroT Tryz.prog 39 = some (.agg [.int .i64 0,.int .i64 0,.int .i64 0]):=by kernel_rfl
theorem by39 : bytesT Tryz.prog 39 = some 24:=by kernel_rfl
theorem jwz : fieldT Tryz.prog 39 0 = some (0,3):=by kernel_rfl
theorem jwY : fieldT Tryz.prog 39 1 = some (1,3):=by kernel_rfl
theorem jxv : fieldT Tryz.prog 39 2 = some (2,3):=by kernel_rfl
theorem bd39 (ps : List (Nat × D)) : buildD Tryz.prog 39 ps = (fillD (fun i=>([(0,1),(1,1),(2,1)] : List (Nat × Nat))[i]?) (D.cells (.agg [.int .i64 0,.int .i64 0,.int .i64 0])) ps).map .agg:=by kernel_rfl
theorem sz40 : sizeT Tryz.prog 40 = some 3:=by kernel_rfl
theorem ag40 : isAggT Tryz.prog 40 = some true:=by kernel_rfl
theorem zr40 : zeroT Tryz.prog 40 = some (.agg [.int .i64 0,.int .i64 0,.int .i64 0]):=by kernel_rfl
theorem by40 : bytesT Tryz.prog 40 = some 24:=by kernel_rfl
theorem jw3 : fieldT Tryz.prog 40 0 = some (0,3):=by kernel_rfl
theorem jxD : fieldT Tryz.prog 40 1 = some (1,3):=by kernel_rfl
theorem jxm : fieldT Tryz.prog 40 2 = some (2,3):=by kernel_rfl
theorem bd40 (ps : List (Nat × D)) : buildD Tryz.prog 40 ps = (fillD (fun i=>([(0,1),(1,1),(2,1)] : List (Nat × Nat))[i]?) (D.cells (.agg [.int .i64 0,.int .i64 0,.int .i64 0])) ps).map .agg:=by kernel_rfl
theorem un43 : Tryz.prog.underlying 43 = some (.int .u16):=by kernel_rfl
theorem sz43 : sizeT Tryz.prog 43 = some 1:=by kernel_rfl
theorem ag43 : isAggT Tryz.prog 43 = some false:=by kernel_rfl
theorem zr43 : zeroT Tryz.prog 43 = some (.int .u16 0):=by kernel_rfl
theorem by43 : bytesT Tryz.prog 43 = some 2:=by kernel_rfl
theorem un44 : Tryz.prog.underlying 44 = some (.slice 46):=by kernel_rfl
theorem sz44 : sizeT Tryz.prog 44 = some 1:=by kernel_rfl
theorem ag44 : isAggT Tryz.prog 44 = some false:=by kernel_rfl
theorem zr44 : zeroT Tryz.prog 44 = some (.sl true []):=by kernel_rfl
theorem by44 : bytesT Tryz.prog 44 = some 24:=by kernel_rfl
theorem el44 : elemT Tryz.prog 44 = some 46:=by kernel_rfl
theorem sz45 : sizeT Tryz.prog 45 = some 3:=by kernel_rfl
theorem ag45 : isAggT Tryz.prog 45 = some true:=by kernel_rfl
theorem zr45 : zeroT Tryz.prog 45 = some (.agg [.int .u8 0,.int .u16 0,.sl true []]):=by kernel_rfl
theorem by45 : bytesT Tryz.prog 45 = some 32:=by kernel_rfl
theorem jxc : fieldT Tryz.prog 45 0 = some (0,5):=by kernel_rfl
theorem jw2 : fieldT Tryz.prog 45 1 = some (1,43):=by kernel_rfl
theorem jxb : fieldT Tryz.prog 45 2 = some (2,44):=by kernel_rfl
theorem bd45 (ps : List (Nat × D)) : buildD Tryz.prog 45 ps = (fillD (fun i=>([(0,1),(1,1),(2,1)] : List (Nat × Nat))[i]?) (D.cells (.agg [.int .u8 0,.int .u16 0,.sl true []])) ps).map .agg:=by kernel_rfl
theorem sz46 : sizeT Tryz.prog 46 = some 3:=by kernel_rfl
theorem ag46 : isAggT Tryz.prog 46 = some true:=by kernel_rfl
theorem zr46 : zeroT Tryz.prog 46 = some (.agg [.int .u8 0,.int .u16 0,.sl true []]):=by kernel_rfl
theorem by46 : bytesT Tryz.prog 46 = some 32:=by kernel_rfl
theorem jwI : fieldT Tryz.prog 46 0 = some (0,5):=by kernel_rfl
theorem jxt : fieldT Tryz.prog 46 1 = some (1,43):=by kernel_rfl
theorem jxg : fieldT Tryz.prog 46 2 = some (2,44):=by kernel_rfl
theorem bd46 (ps : List (Nat × D)) : buildD Tryz.prog 46 ps = (fillD (fun i=>([(0,1),(1,1),(2,1)] : List (Nat × Nat))[i]?) (D.cells (.agg [.int .u8 0,.int .u16 0,.sl true []])) ps).map .agg:=by kernel_rfl
theorem sz47 : sizeT Tryz.prog 47 = some 5:=by kernel_rfl
theorem ag47 : isAggT Tryz.prog 47 = some true:=by kernel_rfl
theorem by47 : bytesT Tryz.prog 47 = some 56:=by kernel_rfl
theorem jw1 : fieldT Tryz.prog 47 0 = some (0,9):=by kernel_rfl
theorem jw0 : fieldT Tryz.prog 47 1 = some (1,46):=by kernel_rfl
theorem jxJ : fieldT Tryz.prog 47 2 = some (4,4):=by kernel_rfl
theorem sz48 : sizeT Tryz.prog 48 = some 5:=by kernel_rfl
theorem ag48 : isAggT Tryz.prog 48 = some true:=by kernel_rfl
theorem by48 : bytesT Tryz.prog 48 = some 56:=by kernel_rfl
theorem jxK : fieldT Tryz.prog 48 0 = some (0,9):=by kernel_rfl
theorem jwQ : fieldT Tryz.prog 48 1 = some (1,46):=by kernel_rfl
theorem jwx : fieldT Tryz.prog 48 2 = some (4,4):=by kernel_rfl
theorem ag53 : isAggT Tryz.prog 53 = some true:=by kernel_rfl
theorem zr53 : zeroT Tryz.prog 53 = some (.agg []):=by kernel_rfl
theorem by53 : bytesT Tryz.prog 53 = some 0:=by kernel_rfl
theorem ag54 : isAggT Tryz.prog 54 = some true:=by kernel_rfl
theorem zr54 : zeroT Tryz.prog 54 = some (.agg []):=by kernel_rfl
theorem by54 : bytesT Tryz.prog 54 = some 0:=by kernel_rfl
theorem ag55 : isAggT Tryz.prog 55 = some true:=by kernel_rfl
theorem zr55 : zeroT Tryz.prog 55 = some (.agg []):=by kernel_rfl
theorem by55 : bytesT Tryz.prog 55 = some 0:=by kernel_rfl
theorem un56 : Tryz.prog.underlying 56 = some (.int .u32):=by kernel_rfl
theorem sz56 : sizeT Tryz.prog 56 = some 1:=by kernel_rfl
theorem ag56 : isAggT Tryz.prog 56 = some false:=by kernel_rfl
theorem zr56 : zeroT Tryz.prog 56 = some (.int .u32 0):=by kernel_rfl
theorem by56 : bytesT Tryz.prog 56 = some 4:=by kernel_rfl
theorem sz57 : sizeT Tryz.prog 57 = some 1:=by kernel_rfl
theorem ag57 : isAggT Tryz.prog 57 = some true:=by kernel_rfl
theorem zr57 : zeroT Tryz.prog 57 = some (.agg [.int .u32 0]):=by kernel_rfl
theorem by57 : bytesT Tryz.prog 57 = some 4:=by kernel_rfl
theorem jwU : fieldT Tryz.prog 57 0 = some (0,55):=by kernel_rfl
theorem jxF : fieldT Tryz.prog 57 1 = some (0,56):=by kernel_rfl
theorem bd57 (ps : List (Nat × D)) : buildD Tryz.prog 57 ps = (fillD (fun i=>([(0,0),(0,1)] : List (Nat × Nat))[i]?) (D.cells (.agg [.int .u32 0])) ps).map .agg:=by kernel_rfl
theorem sz58 : sizeT Tryz.prog 58 = some 1:=by kernel_rfl
theorem ag58 : isAggT Tryz.prog 58 = some true:=by kernel_rfl
theorem zr58 : zeroT Tryz.prog 58 = some (.agg [.int .u32 0]):=by kernel_rfl
theorem by58 : bytesT Tryz.prog 58 = some 4:=by kernel_rfl
theorem jwX : fieldT Tryz.prog 58 0 = some (0,55):=by kernel_rfl
theorem jxk : fieldT Tryz.prog 58 1 = some (0,56):=by kernel_rfl
theorem bd58 (ps : List (Nat × D)) : buildD Tryz.prog 58 ps = (fillD (fun i=>([(0,0),(0,1)] : List (Nat × Nat))[i]?) (D.cells (.agg [.int .u32 0])) ps).map .agg:=by kernel_rfl
theorem sz59 : sizeT Tryz.prog 59 = some 2:=by kernel_rfl
theorem ag59 : isAggT Tryz.prog 59 = some true:=by kernel_rfl
theorem zr59 : zeroT Tryz.prog 59 = some (.agg [.int .i32 0,.int .u32 0]):=by kernel_rfl
theorem by59 : bytesT Tryz.prog 59 = some 8:=by kernel_rfl
theorem jwL : fieldT Tryz.prog 59 0 = some (0,21):=by kernel_rfl
theorem jwT : fieldT Tryz.prog 59 1 = some (1,56):=by kernel_rfl
theorem bd59 (ps : List (Nat × D)) : buildD Tryz.prog 59 ps = (fillD (fun i=>([(0,1),(1,1)] : List (Nat × Nat))[i]?) (D.cells (.agg [.int .i32 0,.int .u32 0])) ps).map .agg:=by kernel_rfl
theorem sz60 : sizeT Tryz.prog 60 = some 2:=by kernel_rfl
theorem ag60 : isAggT Tryz.prog 60 = some true:=by kernel_rfl
theorem zr60 : zeroT Tryz.prog 60 = some (.agg [.int .i32 0,.int .u32 0]):=by kernel_rfl
theorem by60 : bytesT Tryz.prog 60 = some 8:=by kernel_rfl
theorem jxz : fieldT Tryz.prog 60 0 = some (0,21):=by kernel_rfl
theorem jwC : fieldT Tryz.prog 60 1 = some (1,56):=by kernel_rfl
theorem bd60 (ps : List (Nat × D)) : buildD Tryz.prog 60 ps = (fillD (fun i=>([(0,1),(1,1)] : List (Nat × Nat))[i]?) (D.cells (.agg [.int .i32 0,.int .u32 0])) ps).map .agg:=by kernel_rfl
theorem sz61 : sizeT Tryz.prog 61 = some 2:=by kernel_rfl
theorem ag61 : isAggT Tryz.prog 61 = some true:=by kernel_rfl
theorem zr61 : zeroT Tryz.prog 61 = some (.agg [.int .i32 0,.int .u32 0]):=by kernel_rfl
theorem by61 : bytesT Tryz.prog 61 = some 8:=by kernel_rfl
theorem jwM : fieldT Tryz.prog 61 0 = some (0,54):=by kernel_rfl
theorem jwP : fieldT Tryz.prog 61 1 = some (0,60):=by kernel_rfl
theorem bd61 (ps : List (Nat × D)) : buildD Tryz.prog 61 ps = (fillD (fun i=>([(0,0),(0,2)] : List (Nat × Nat))[i]?) (D.cells (.agg [.int .i32 0,.int .u32 0])) ps).map .agg:=by kernel_rfl
theorem sz62 : sizeT Tryz.prog 62 = some 2:=by kernel_rfl
theorem ag62 : isAggT Tryz.prog 62 = some true:=by kernel_rfl
theorem zr62 : zeroT Tryz.prog 62 = some (.agg [.int .i32 0,.int .u32 0]):=by kernel_rfl
theorem by62 : bytesT Tryz.prog 62 = some 8:=by kernel_rfl
theorem jw8 : fieldT Tryz.prog 62 0 = some (0,54):=by kernel_rfl
theorem jxI : fieldT Tryz.prog 62 1 = some (0,60):=by kernel_rfl
theorem bd62 (ps : List (Nat × D)) : buildD Tryz.prog 62 ps = (fillD (fun i=>([(0,0),(0,2)] : List (Nat × Nat))[i]?) (D.cells (.agg [.int .i32 0,.int .u32 0])) ps).map .agg:=by kernel_rfl
theorem sz63 : sizeT Tryz.prog 63 = some 3:=by kernel_rfl
theorem ag63 : isAggT Tryz.prog 63 = some true:=by kernel_rfl
theorem zr63 : zeroT Tryz.prog 63 = some (.agg [.int .u32 0,.int .i32 0,.int .u32 0]):=by kernel_rfl
theorem by63 : bytesT Tryz.prog 63 = some 12:=by kernel_rfl
theorem jxd : fieldT Tryz.prog 63 0 = some (0,54):=by kernel_rfl
theorem jxN : fieldT Tryz.prog 63 1 = some (0,58):=by kernel_rfl
theorem jwA : fieldT Tryz.prog 63 2 = some (1,62):=by kernel_rfl
theorem bd63 (ps : List (Nat × D)) : buildD Tryz.prog 63 ps = (fillD (fun i=>([(0,0),(0,1),(1,2)] : List (Nat × Nat))[i]?) (D.cells (.agg [.int .u32 0,.int .i32 0,.int .u32 0])) ps).map .agg:=by kernel_rfl
theorem sz64 : sizeT Tryz.prog 64 = some 3:=by kernel_rfl
theorem ag64 : isAggT Tryz.prog 64 = some true:=by kernel_rfl
theorem zr64 : zeroT Tryz.prog 64 = some (.agg [.int .u32 0,.int .i32 0,.int .u32 0]):=by kernel_rfl
theorem by64 : bytesT Tryz.prog 64 = some 12:=by kernel_rfl
theorem jwH : fieldT Tryz.prog 64 0 = some (0,54):=by kernel_rfl
theorem jxG : fieldT Tryz.prog 64 1 = some (0,58):=by kernel_rfl
theorem jwS : fieldT Tryz.prog 64 2 = some (1,62):=by kernel_rfl
theorem bd64 (ps : List (Nat × D)) : buildD Tryz.prog 64 ps = (fillD (fun i=>([(0,0),(0,1),(1,2)] : List (Nat × Nat))[i]?) (D.cells (.agg [.int .u32 0,.int .i32 0,.int .u32 0])) ps).map .agg:=by kernel_rfl
theorem un65 : Tryz.prog.underlying 65 = some (.slice 90):=by kernel_rfl
theorem sz65 : sizeT Tryz.prog 65 = some 1:=by kernel_rfl
theorem ag65 : isAggT Tryz.prog 65 = some false:=by kernel_rfl
theorem zr65 : zeroT Tryz.prog 65 = some (.sl true []):=by kernel_rfl
theorem by65 : bytesT Tryz.prog 65 = some 24:=by kernel_rfl
theorem el65 : elemT Tryz.prog 65 = some 90:=by kernel_rfl
theorem sz66 : sizeT Tryz.prog 66 = some 2:=by kernel_rfl
theorem ag66 : isAggT Tryz.prog 66 = some true:=by kernel_rfl
theorem by66 : bytesT Tryz.prog 66 = some 48:=by kernel_rfl
theorem jxL : fieldT Tryz.prog 66 0 = some (0,65):=by kernel_rfl
theorem jxe : fieldT Tryz.prog 66 1 = some (1,23):=by kernel_rfl
theorem sz67 : sizeT Tryz.prog 67 = some 2:=by kernel_rfl
theorem ag67 : isAggT Tryz.prog 67 = some true:=by kernel_rfl
theorem by67 : bytesT Tryz.prog 67 = some 48:=by kernel_rfl
theorem jwV : fieldT Tryz.prog 67 0 = some (0,65):=by kernel_rfl
theorem jxf : fieldT Tryz.prog 67 1 = some (1,23):=by kernel_rfl
theorem ag68 : isAggT Tryz.prog 68 = some true:=by kernel_rfl
theorem zr68 : zeroT Tryz.prog 68 = some (.agg []):=by kernel_rfl
theorem by68 : bytesT Tryz.prog 68 = some 0:=by kernel_rfl
theorem sz69 : sizeT Tryz.prog 69 = some 1:=by kernel_rfl
theorem ag69 : isAggT Tryz.prog 69 = some true:=by kernel_rfl
theorem zr69 : zeroT Tryz.prog 69 = some (.agg [.int .i64 0]):=by kernel_rfl
theorem by69 : bytesT Tryz.prog 69 = some 8:=by kernel_rfl
theorem jw9 : fieldT Tryz.prog 69 0 = some (0,55):=by kernel_rfl
theorem jxE : fieldT Tryz.prog 69 1 = some (0,68):=by kernel_rfl
theorem jwO : fieldT Tryz.prog 69 2 = some (0,2):=by kernel_rfl
theorem bd69 (ps : List (Nat × D)) : buildD Tryz.prog 69 ps = (fillD (fun i=>([(0,0),(0,0),(0,1)] : List (Nat × Nat))[i]?) (D.cells (.agg [.int .i64 0])) ps).map .agg:=by kernel_rfl
theorem sz70 : sizeT Tryz.prog 70 = some 1:=by kernel_rfl
theorem ag70 : isAggT Tryz.prog 70 = some true:=by kernel_rfl
theorem zr70 : zeroT Tryz.prog 70 = some (.agg [.int .i64 0]):=by kernel_rfl
theorem by70 : bytesT Tryz.prog 70 = some 8:=by kernel_rfl
theorem jxP : fieldT Tryz.prog 70 0 = some (0,55):=by kernel_rfl
theorem jwB : fieldT Tryz.prog 70 1 = some (0,68):=by kernel_rfl
theorem jwZ : fieldT Tryz.prog 70 2 = some (0,2):=by kernel_rfl
theorem bd70 (ps : List (Nat × D)) : buildD Tryz.prog 70 ps = (fillD (fun i=>([(0,0),(0,0),(0,1)] : List (Nat × Nat))[i]?) (D.cells (.agg [.int .i64 0])) ps).map .agg:=by kernel_rfl
theorem sz71 : sizeT Tryz.prog 71 = some 8:=by kernel_rfl
theorem ag71 : isAggT Tryz.prog 71 = some true:=by kernel_rfl
theorem by71 : bytesT Tryz.prog 71 = some 104:=by kernel_rfl
theorem jxq : fieldT Tryz.prog 71 0 = some (0,22):=by kernel_rfl
theorem jwG : fieldT Tryz.prog 71 1 = some (1,64):=by kernel_rfl
theorem jw5 : fieldT Tryz.prog 71 2 = some (4,67):=by kernel_rfl
theorem jxO : fieldT Tryz.prog 71 3 = some (6,30):=by kernel_rfl
theorem jxH : fieldT Tryz.prog 71 4 = some (7,70):=by kernel_rfl
theorem sz72 : sizeT Tryz.prog 72 = some 8:=by kernel_rfl
theorem ag72 : isAggT Tryz.prog 72 = some true:=by kernel_rfl
theorem by72 : bytesT Tryz.prog 72 = some 104:=by kernel_rfl
theorem jw4 : fieldT Tryz.prog 72 0 = some (0,22):=by kernel_rfl
theorem jxa : fieldT Tryz.prog 72 1 = some (1,64):=by kernel_rfl
theorem jwJ : fieldT Tryz.prog 72 2 = some (4,67):=by kernel_rfl
theorem jww : fieldT Tryz.prog 72 3 = some (6,30):=by kernel_rfl
theorem jxu : fieldT Tryz.prog 72 4 = some (7,70):=by kernel_rfl
theorem un77 : Tryz.prog.underlying 77 = some (.slice 4):=by kernel_rfl
theorem sz77 : sizeT Tryz.prog 77 = some 1:=by kernel_rfl
theorem ag77 : isAggT Tryz.prog 77 = some false:=by kernel_rfl
theorem zr77 : zeroT Tryz.prog 77 = some (.sl true []):=by kernel_rfl
theorem by77 : bytesT Tryz.prog 77 = some 24:=by kernel_rfl
theorem el77 : elemT Tryz.prog 77 = some 4:=by kernel_rfl
theorem un80 : Tryz.prog.underlying 80 = some (.slice 9):=by kernel_rfl
theorem sz80 : sizeT Tryz.prog 80 = some 1:=by kernel_rfl
theorem ag80 : isAggT Tryz.prog 80 = some false:=by kernel_rfl
theorem zr80 : zeroT Tryz.prog 80 = some (.sl true []):=by kernel_rfl
theorem by80 : bytesT Tryz.prog 80 = some 24:=by kernel_rfl
theorem el80 : elemT Tryz.prog 80 = some 9:=by kernel_rfl
theorem un90 : Tryz.prog.underlying 90 = some (.array 16 3):=by kernel_rfl
theorem sz90 : sizeT Tryz.prog 90 = some 16:=by kernel_rfl
theorem ag90 : isAggT Tryz.prog 90 = some true:=by kernel_rfl
theorem zr90 : zeroT Tryz.prog 90 = some (.agg [.int .i64 0,.int .i64 0,.int .i64 0,.int .i64 0,.int .i64 0,.int .i64 0,.int .i64 0,.int .i64 0,.int .i64 0,.int .i64 0,.int .i64 0,.int .i64 0,.int .i64 0,.int .i64 0,.int .i64 0,.int .i64 0]):=by kernel_rfl
theorem by90 : bytesT Tryz.prog 90 = some 128:=by kernel_rfl
theorem bd90 (ps : List (Nat × D)) : buildD Tryz.prog 90 ps = (fillD (fun i=>some (i * 1,1)) (D.cells (.agg [.int .i64 0,.int .i64 0,.int .i64 0,.int .i64 0,.int .i64 0,.int .i64 0,.int .i64 0,.int .i64 0,.int .i64 0,.int .i64 0,.int .i64 0,.int .i64 0,.int .i64 0,.int .i64 0,.int .i64 0,.int .i64 0])) ps).map .agg:=by kernel_rfl
theorem un95 : Tryz.prog.underlying 95 = some (.pointer 70):=by kernel_rfl
theorem sz95 : sizeT Tryz.prog 95 = some 1:=by kernel_rfl
theorem ag95 : isAggT Tryz.prog 95 = some false:=by kernel_rfl
theorem zr95 : zeroT Tryz.prog 95 = some (.nilp):=by kernel_rfl
theorem by95 : bytesT Tryz.prog 95 = some 8:=by kernel_rfl
theorem un97 : Tryz.prog.underlying 97 = some (.pointer 2):=by kernel_rfl
theorem sz97 : sizeT Tryz.prog 97 = some 1:=by kernel_rfl
theorem ag97 : isAggT Tryz.prog 97 = some false:=by kernel_rfl
theorem zr97 : zeroT Tryz.prog 97 = some (.nilp):=by kernel_rfl
theorem by97 : bytesT Tryz.prog 97 = some 8:=by kernel_rfl
theorem un98 : Tryz.prog.underlying 98 = some (.int .u64):=by kernel_rfl
theorem sz98 : sizeT Tryz.prog 98 = some 1:=by kernel_rfl
theorem ag98 : isAggT Tryz.prog 98 = some false:=by kernel_rfl
theorem zr98 : zeroT Tryz.prog 98 = some (.int .u64 0):=by kernel_rfl
theorem by98 : bytesT Tryz.prog 98 = some 8:=by kernel_rfl
theorem un110 : Tryz.prog.underlying 110 = some (.pointer 3):=by kernel_rfl
theorem sz110 : sizeT Tryz.prog 110 = some 1:=by kernel_rfl
theorem ag110 : isAggT Tryz.prog 110 = some false:=by kernel_rfl
theorem zr110 : zeroT Tryz.prog 110 = some (.nilp):=by kernel_rfl
theorem by110 : bytesT Tryz.prog 110 = some 8:=by kernel_rfl
theorem un111 : Tryz.prog.underlying 111 = some (.pointer 64):=by kernel_rfl
theorem sz111 : sizeT Tryz.prog 111 = some 1:=by kernel_rfl
theorem ag111 : isAggT Tryz.prog 111 = some false:=by kernel_rfl
theorem zr111 : zeroT Tryz.prog 111 = some (.nilp):=by kernel_rfl
theorem by111 : bytesT Tryz.prog 111 = some 8:=by kernel_rfl
theorem un122 : Tryz.prog.underlying 122 = some (.pointer 58):=by kernel_rfl
theorem sz122 : sizeT Tryz.prog 122 = some 1:=by kernel_rfl
theorem ag122 : isAggT Tryz.prog 122 = some false:=by kernel_rfl
theorem zr122 : zeroT Tryz.prog 122 = some (.nilp):=by kernel_rfl
theorem by122 : bytesT Tryz.prog 122 = some 8:=by kernel_rfl
theorem un124 : Tryz.prog.underlying 124 = some (.pointer 56):=by kernel_rfl
theorem sz124 : sizeT Tryz.prog 124 = some 1:=by kernel_rfl
theorem ag124 : isAggT Tryz.prog 124 = some false:=by kernel_rfl
theorem zr124 : zeroT Tryz.prog 124 = some (.nilp):=by kernel_rfl
theorem by124 : bytesT Tryz.prog 124 = some 8:=by kernel_rfl
theorem un126 : Tryz.prog.underlying 126 = some (.slice 23):=by kernel_rfl
theorem sz126 : sizeT Tryz.prog 126 = some 1:=by kernel_rfl
theorem ag126 : isAggT Tryz.prog 126 = some false:=by kernel_rfl
theorem zr126 : zeroT Tryz.prog 126 = some (.sl true []):=by kernel_rfl
theorem by126 : bytesT Tryz.prog 126 = some 24:=by kernel_rfl
theorem el126 : elemT Tryz.prog 126 = some 23:=by kernel_rfl
theorem un127 : Tryz.prog.underlying 127 = some (.slice 43):=by kernel_rfl
theorem sz127 : sizeT Tryz.prog 127 = some 1:=by kernel_rfl
theorem ag127 : isAggT Tryz.prog 127 = some false:=by kernel_rfl
theorem zr127 : zeroT Tryz.prog 127 = some (.sl true []):=by kernel_rfl
theorem by127 : bytesT Tryz.prog 127 = some 24:=by kernel_rfl
theorem el127 : elemT Tryz.prog 127 = some 43:=by kernel_rfl
theorem sz128 : sizeT Tryz.prog 128 = some 4:=by kernel_rfl
theorem ag128 : isAggT Tryz.prog 128 = some true:=by kernel_rfl
theorem by128 : bytesT Tryz.prog 128 = some 96:=by kernel_rfl
theorem jvL : fieldT Tryz.prog 128 0 = some (0,126):=by kernel_rfl
theorem jvC : fieldT Tryz.prog 128 1 = some (1,127):=by kernel_rfl
theorem jvR : fieldT Tryz.prog 128 2 = some (2,23):=by kernel_rfl
theorem jvN : fieldT Tryz.prog 128 3 = some (3,23):=by kernel_rfl
theorem sz129 : sizeT Tryz.prog 129 = some 4:=by kernel_rfl
theorem ag129 : isAggT Tryz.prog 129 = some true:=by kernel_rfl
theorem by129 : bytesT Tryz.prog 129 = some 96:=by kernel_rfl
theorem juM : fieldT Tryz.prog 129 0 = some (0,126):=by kernel_rfl
theorem jvb : fieldT Tryz.prog 129 1 = some (1,127):=by kernel_rfl
theorem jvh : fieldT Tryz.prog 129 2 = some (2,23):=by kernel_rfl
theorem jvm : fieldT Tryz.prog 129 3 = some (3,23):=by kernel_rfl
theorem un132 : Tryz.prog.underlying 132 = some (.pointer 135):=by kernel_rfl
theorem sz132 : sizeT Tryz.prog 132 = some 1:=by kernel_rfl
theorem ag132 : isAggT Tryz.prog 132 = some false:=by kernel_rfl
theorem zr132 : zeroT Tryz.prog 132 = some (.nilp):=by kernel_rfl
theorem by132 : bytesT Tryz.prog 132 = some 8:=by kernel_rfl
theorem un133 : Tryz.prog.underlying 133 = some (.map 9 3):=by kernel_rfl
theorem sz133 : sizeT Tryz.prog 133 = some 1:=by kernel_rfl
theorem ag133 : isAggT Tryz.prog 133 = some false:=by kernel_rfl
theorem zr133 : zeroT Tryz.prog 133 = some (.nilm):=by kernel_rfl
theorem by133 : bytesT Tryz.prog 133 = some 8:=by kernel_rfl
theorem sz134 : sizeT Tryz.prog 134 = some 8:=by kernel_rfl
theorem ag134 : isAggT Tryz.prog 134 = some true:=by kernel_rfl
theorem by134 : bytesT Tryz.prog 134 = some 176:=by kernel_rfl
theorem jvU : fieldT Tryz.prog 134 0 = some (0,129):=by kernel_rfl
theorem jvG : fieldT Tryz.prog 134 1 = some (4,67):=by kernel_rfl
theorem jwk : fieldT Tryz.prog 134 2 = some (6,133):=by kernel_rfl
theorem jvn : fieldT Tryz.prog 134 3 = some (7,126):=by kernel_rfl
theorem sz135 : sizeT Tryz.prog 135 = some 8:=by kernel_rfl
theorem ag135 : isAggT Tryz.prog 135 = some true:=by kernel_rfl
theorem by135 : bytesT Tryz.prog 135 = some 176:=by kernel_rfl
theorem jvT : fieldT Tryz.prog 135 0 = some (0,129):=by kernel_rfl
theorem juE : fieldT Tryz.prog 135 1 = some (4,67):=by kernel_rfl
theorem jv3 : fieldT Tryz.prog 135 2 = some (6,133):=by kernel_rfl
theorem jwm : fieldT Tryz.prog 135 3 = some (7,126):=by kernel_rfl
theorem un140 : Tryz.prog.underlying 140 = some (.map 3 3):=by kernel_rfl
theorem sz140 : sizeT Tryz.prog 140 = some 1:=by kernel_rfl
theorem ag140 : isAggT Tryz.prog 140 = some false:=by kernel_rfl
theorem zr140 : zeroT Tryz.prog 140 = some (.nilm):=by kernel_rfl
theorem by140 : bytesT Tryz.prog 140 = some 8:=by kernel_rfl
theorem un148 : Tryz.prog.underlying 148 = some (.pointer 62):=by kernel_rfl
theorem sz148 : sizeT Tryz.prog 148 = some 1:=by kernel_rfl
theorem ag148 : isAggT Tryz.prog 148 = some false:=by kernel_rfl
theorem zr148 : zeroT Tryz.prog 148 = some (.nilp):=by kernel_rfl
theorem by148 : bytesT Tryz.prog 148 = some 8:=by kernel_rfl
theorem un151 : Tryz.prog.underlying 151 = some (.pointer 153):=by kernel_rfl
theorem sz151 : sizeT Tryz.prog 151 = some 1:=by kernel_rfl
theorem ag151 : isAggT Tryz.prog 151 = some false:=by kernel_rfl
theorem zr151 : zeroT Tryz.prog 151 = some (.nilp):=by kernel_rfl
theorem by151 : bytesT Tryz.prog 151 = some 8:=by kernel_rfl
theorem sz152 : sizeT Tryz.prog 152 = some 4:=by kernel_rfl
theorem ag152 : isAggT Tryz.prog 152 = some true:=by kernel_rfl
theorem by152 : bytesT Tryz.prog 152 = some 96:=by kernel_rfl
theorem jwe : fieldT Tryz.prog 152 0 = some (0,129):=by kernel_rfl
theorem sz153 : sizeT Tryz.prog 153 = some 4:=by kernel_rfl
theorem ag153 : isAggT Tryz.prog 153 = some true:=by kernel_rfl
theorem by153 : bytesT Tryz.prog 153 = some 96:=by kernel_rfl
theorem jvz : fieldT Tryz.prog 153 0 = some (0,129):=by kernel_rfl
theorem un156 : Tryz.prog.underlying 156 = some (.slice 5):=by kernel_rfl
theorem sz156 : sizeT Tryz.prog 156 = some 1:=by kernel_rfl
theorem ag156 : isAggT Tryz.prog 156 = some false:=by kernel_rfl
theorem zr156 : zeroT Tryz.prog 156 = some (.sl true []):=by kernel_rfl
theorem by156 : bytesT Tryz.prog 156 = some 24:=by kernel_rfl
theorem el156 : elemT Tryz.prog 156 = some 5:=by kernel_rfl
theorem un165 : Tryz.prog.underlying 165 = some (.pointer 60):=by kernel_rfl
theorem sz165 : sizeT Tryz.prog 165 = some 1:=by kernel_rfl
theorem ag165 : isAggT Tryz.prog 165 = some false:=by kernel_rfl
theorem zr165 : zeroT Tryz.prog 165 = some (.nilp):=by kernel_rfl
theorem by165 : bytesT Tryz.prog 165 = some 8:=by kernel_rfl
theorem un167 : Tryz.prog.underlying 167 = some (.pointer 21):=by kernel_rfl
theorem sz167 : sizeT Tryz.prog 167 = some 1:=by kernel_rfl
theorem ag167 : isAggT Tryz.prog 167 = some false:=by kernel_rfl
theorem zr167 : zeroT Tryz.prog 167 = some (.nilp):=by kernel_rfl
theorem by167 : bytesT Tryz.prog 167 = some 8:=by kernel_rfl
theorem un172 : Tryz.prog.underlying 172 = some (.slice 174):=by kernel_rfl
theorem sz172 : sizeT Tryz.prog 172 = some 1:=by kernel_rfl
theorem ag172 : isAggT Tryz.prog 172 = some false:=by kernel_rfl
theorem zr172 : zeroT Tryz.prog 172 = some (.sl true []):=by kernel_rfl
theorem by172 : bytesT Tryz.prog 172 = some 24:=by kernel_rfl
theorem el172 : elemT Tryz.prog 172 = some 174:=by kernel_rfl
theorem un174 : Tryz.prog.underlying 174 = some (.array 2 3):=by kernel_rfl
theorem sz174 : sizeT Tryz.prog 174 = some 2:=by kernel_rfl
theorem ag174 : isAggT Tryz.prog 174 = some true:=by kernel_rfl
theorem zr174 : zeroT Tryz.prog 174 = some (.agg [.int .i64 0,.int .i64 0]):=by kernel_rfl
theorem by174 : bytesT Tryz.prog 174 = some 16:=by kernel_rfl
theorem bd174 (ps : List (Nat × D)) : buildD Tryz.prog 174 ps = (fillD (fun i=>some (i * 1,1)) (D.cells (.agg [.int .i64 0,.int .i64 0])) ps).map .agg:=by kernel_rfl
theorem sz175 : sizeT Tryz.prog 175 = some 1:=by kernel_rfl
theorem ag175 : isAggT Tryz.prog 175 = some false:=by kernel_rfl
theorem zr175 : zeroT Tryz.prog 175 = some (.niln):=by kernel_rfl
theorem by175 : bytesT Tryz.prog 175 = some 8:=by kernel_rfl
theorem sz176 : sizeT Tryz.prog 176 = some 1:=by kernel_rfl
theorem ag176 : isAggT Tryz.prog 176 = some false:=by kernel_rfl
theorem zr176 : zeroT Tryz.prog 176 = some (.niln):=by kernel_rfl
theorem by176 : bytesT Tryz.prog 176 = some 8:=by kernel_rfl
theorem un178 : Tryz.prog.underlying 178 = some (.map 180 3):=by kernel_rfl
theorem sz178 : sizeT Tryz.prog 178 = some 1:=by kernel_rfl
theorem ag178 : isAggT Tryz.prog 178 = some false:=by kernel_rfl
theorem zr178 : zeroT Tryz.prog 178 = some (.nilm):=by kernel_rfl
theorem by178 : bytesT Tryz.prog 178 = some 8:=by kernel_rfl
theorem un179 : Tryz.prog.underlying 179 = some (.array 17 3):=by kernel_rfl
theorem sz179 : sizeT Tryz.prog 179 = some 17:=by kernel_rfl
theorem ag179 : isAggT Tryz.prog 179 = some true:=by kernel_rfl
theorem zr179 : zeroT Tryz.prog 179 = some (.agg [.int .i64 0,.int .i64 0,.int .i64 0,.int .i64 0,.int .i64 0,.int .i64 0,.int .i64 0,.int .i64 0,.int .i64 0,.int .i64 0,.int .i64 0,.int .i64 0,.int .i64 0,.int .i64 0,.int .i64 0,.int .i64 0,.int .i64 0]):=by kernel_rfl
theorem by179 : bytesT Tryz.prog 179 = some 136:=by kernel_rfl
theorem bd179 (ps : List (Nat × D)) : buildD Tryz.prog 179 ps = (fillD (fun i=>some (i * 1,1)) (D.cells (.agg [.int .i64 0,.int .i64 0,.int .i64 0,.int .i64 0,.int .i64 0,.int .i64 0,.int .i64 0,.int .i64 0,.int .i64 0,.int .i64 0,.int .i64 0,.int .i64 0,.int .i64 0,.int .i64 0,.int .i64 0,.int .i64 0,.int .i64 0])) ps).map .agg:=by kernel_rfl
theorem un180 : Tryz.prog.underlying 180 = some (.array 17 3):=by kernel_rfl
theorem sz180 : sizeT Tryz.prog 180 = some 17:=by kernel_rfl
theorem ag180 : isAggT Tryz.prog 180 = some true:=by kernel_rfl
theorem zr180 : zeroT Tryz.prog 180 = some (.agg [.int .i64 0,.int .i64 0,.int .i64 0,.int .i64 0,.int .i64 0,.int .i64 0,.int .i64 0,.int .i64 0,.int .i64 0,.int .i64 0,.int .i64 0,.int .i64 0,.int .i64 0,.int .i64 0,.int .i64 0,.int .i64 0,.int .i64 0]):=by kernel_rfl
theorem by180 : bytesT Tryz.prog 180 = some 136:=by kernel_rfl
theorem bd180 (ps : List (Nat × D)) : buildD Tryz.prog 180 ps = (fillD (fun i=>some (i * 1,1)) (D.cells (.agg [.int .i64 0,.int .i64 0,.int .i64 0,.int .i64 0,.int .i64 0,.int .i64 0,.int .i64 0,.int .i64 0,.int .i64 0,.int .i64 0,.int .i64 0,.int .i64 0,.int .i64 0,.int .i64 0,.int .i64 0,.int .i64 0,.int .i64 0])) ps).map .agg:=by kernel_rfl
theorem un181 : Tryz.prog.underlying 181 = some (.array 256 5):=by kernel_rfl
theorem sz181 : sizeT Tryz.prog 181 = some 256:=by kernel_rfl
theorem ag181 : isAggT Tryz.prog 181 = some true:=by kernel_rfl
theorem zr181 : zeroT Tryz.prog 181 = some (.agg [.int .u8 0,.int .u8 0,.int .u8 0,.int .u8 0,.int .u8 0,.int .u8 0,.int .u8 0,.int .u8 0,.int .u8 0,.int .u8 0,.int .u8 0,.int .u8 0,.int .u8 0,.int .u8 0,.int .u8 0,.int .u8 0,.int .u8 0,.int .u8 0,.int .u8 0,.int .u8 0,.int .u8 0,.int .u8 0,.int .u8 0,.int .u8 0,.int .u8 0,.int .u8 0,.int .u8 0,.int .u8 0,.int .u8 0,.int .u8 0,.int .u8 0,.int .u8 0,.int .u8 0,.int .u8 0,.int .u8 0,.int .u8 0,.int .u8 0,.int .u8 0,.int .u8 0,.int .u8 0,.int .u8 0,.int .u8 0,.int .u8 0,.int .u8 0,.int .u8 0,.int .u8 0,.int .u8 0,.int .u8 0,.int .u8 0,.int .u8 0,.int .u8 0,.int .u8 0,.int .u8 0,.int .u8 0,.int .u8 0,.int .u8 0,.int .u8 0,.int .u8 0,.int .u8 0,.int .u8 0,.int .u8 0,.int .u8 0,.int .u8 0,.int .u8 0,.int .u8 0,.int .u8 0,.int .u8 0,.int .u8 0,.int .u8 0,.int .u8 0,.int .u8 0,.int .u8 0,.int .u8 0,.int .u8 0,.int .u8 0,.int .u8 0,.int .u8 0,.int .u8 0,.int .u8 0,.int .u8 0,.int .u8 0,.int .u8 0,.int .u8 0,.int .u8 0,.int .u8 0,.int .u8 0,.int .u8 0,.int .u8 0,.int .u8 0,.int .u8 0,.int .u8 0,.int .u8 0,.int .u8 0,.int .u8 0,.int .u8 0,.int .u8 0,.int .u8 0,.int .u8 0,.int .u8 0,.int .u8 0,.int .u8 0,.int .u8 0,.int .u8 0,.int .u8 0,.int .u8 0,.int .u8 0,.int .u8 0,.int .u8 0,.int .u8 0,.int .u8 0,.int .u8 0,.int .u8 0,.int .u8 0,.int .u8 0,.int .u8 0,.int .u8 0,.int .u8 0,.int .u8 0,.int .u8 0,.int .u8 0,.int .u8 0,.int .u8 0,.int .u8 0,.int .u8 0,.int .u8 0,.int .u8 0,.int .u8 0,.int .u8 0,.int .u8 0,.int .u8 0,.int .u8 0,.int .u8 0,.int .u8 0,.int .u8 0,.int .u8 0,.int .u8 0,.int .u8 0,.int .u8 0,.int .u8 0,.int .u8 0,.int .u8 0,.int .u8 0,.int .u8 0,.int .u8 0,.int .u8 0,.int .u8 0,.int .u8 0,.int .u8 0,.int .u8 0,.int .u8 0,.int .u8 0,.int .u8 0,.int .u8 0,.int .u8 0,.int .u8 0,.int .u8 0,.int .u8 0,.int .u8 0,.int .u8 0,.int .u8 0,.int .u8 0,.int .u8 0,.int .u8 0,.int .u8 0,.int .u8 0,.int .u8 0,.int .u8 0,.int .u8 0,.int .u8 0,.int .u8 0,.int .u8 0,.int .u8 0,.int .u8 0,.int .u8 0,.int .u8 0,.int .u8 0,.int .u8 0,.int .u8 0,.int .u8 0,.int .u8 0,.int .u8 0,.int .u8 0,.int .u8 0,.int .u8 0,.int .u8 0,.int .u8 0,.int .u8 0,.int .u8 0,.int .u8 0,.int .u8 0,.int .u8 0,.int .u8 0,.int .u8 0,.int .u8 0,.int .u8 0,.int .u8 0,.int .u8 0,.int .u8 0,.int .u8 0,.int .u8 0,.int .u8 0,.int .u8 0,.int .u8 0,.int .u8 0,.int .u8 0,.int .u8 0,.int .u8 0,.int .u8 0,.int .u8 0,.int .u8 0,.int .u8 0,.int .u8 0,.int .u8 0,.int .u8 0,.int .u8 0,.int .u8 0,.int .u8 0,.int .u8 0,.int .u8 0,.int .u8 0,.int .u8 0,.int .u8 0,.int .u8 0,.int .u8 0,.int .u8 0,.int .u8 0,.int .u8 0,.int .u8 0,.int .u8 0,.int .u8 0,.int .u8 0,.int .u8 0,.int .u8 0,.int .u8 0,.int .u8 0,.int .u8 0,.int .u8 0,.int .u8 0,.int .u8 0,.int .u8 0,.int .u8 0,.int .u8 0,.int .u8 0,.int .u8 0,.int .u8 0,.int .u8 0,.int .u8 0,.int .u8 0,.int .u8 0,.int .u8 0,.int .u8 0,.int .u8 0,.int .u8 0,.int .u8 0,.int .u8 0,.int .u8 0]):=by kernel_rfl
theorem by181 : bytesT Tryz.prog 181 = some 256:=by kernel_rfl
theorem sz182 : sizeT Tryz.prog 182 = some 2:=by kernel_rfl
theorem ag182 : isAggT Tryz.prog 182 = some true:=by kernel_rfl
theorem zr182 : zeroT Tryz.prog 182 = some (.agg [.int .u8 0,.int .u8 0]):=by kernel_rfl
theorem by182 : bytesT Tryz.prog 182 = some 2:=by kernel_rfl
theorem jv5 : fieldT Tryz.prog 182 0 = some (0,5):=by kernel_rfl
theorem ju5 : fieldT Tryz.prog 182 1 = some (1,5):=by kernel_rfl
theorem bd182 (ps : List (Nat × D)) : buildD Tryz.prog 182 ps = (fillD (fun i=>([(0,1),(1,1)] : List (Nat × Nat))[i]?) (D.cells (.agg [.int .u8 0,.int .u8 0])) ps).map .agg:=by kernel_rfl
theorem sz183 : sizeT Tryz.prog 183 = some 2:=by kernel_rfl
theorem ag183 : isAggT Tryz.prog 183 = some true:=by kernel_rfl
theorem zr183 : zeroT Tryz.prog 183 = some (.agg [.int .u8 0,.int .u8 0]):=by kernel_rfl
theorem by183 : bytesT Tryz.prog 183 = some 2:=by kernel_rfl
theorem jwd : fieldT Tryz.prog 183 0 = some (0,5):=by kernel_rfl
theorem jvH : fieldT Tryz.prog 183 1 = some (1,5):=by kernel_rfl
theorem bd183 (ps : List (Nat × D)) : buildD Tryz.prog 183 ps = (fillD (fun i=>([(0,1),(1,1)] : List (Nat × Nat))[i]?) (D.cells (.agg [.int .u8 0,.int .u8 0])) ps).map .agg:=by kernel_rfl
theorem un184 : Tryz.prog.underlying 184 = some (.array 16 183):=by kernel_rfl
theorem sz184 : sizeT Tryz.prog 184 = some 32:=by kernel_rfl
theorem ag184 : isAggT Tryz.prog 184 = some true:=by kernel_rfl
theorem zr184 : zeroT Tryz.prog 184 = some (.agg [.int .u8 0,.int .u8 0,.int .u8 0,.int .u8 0,.int .u8 0,.int .u8 0,.int .u8 0,.int .u8 0,.int .u8 0,.int .u8 0,.int .u8 0,.int .u8 0,.int .u8 0,.int .u8 0,.int .u8 0,.int .u8 0,.int .u8 0,.int .u8 0,.int .u8 0,.int .u8 0,.int .u8 0,.int .u8 0,.int .u8 0,.int .u8 0,.int .u8 0,.int .u8 0,.int .u8 0,.int .u8 0,.int .u8 0,.int .u8 0,.int .u8 0,.int .u8 0]):=by kernel_rfl
theorem by184 : bytesT Tryz.prog 184 = some 32:=by kernel_rfl
theorem bd184 (ps : List (Nat × D)) : buildD Tryz.prog 184 ps = (fillD (fun i=>some (i * 2,2)) (D.cells (.agg [.int .u8 0,.int .u8 0,.int .u8 0,.int .u8 0,.int .u8 0,.int .u8 0,.int .u8 0,.int .u8 0,.int .u8 0,.int .u8 0,.int .u8 0,.int .u8 0,.int .u8 0,.int .u8 0,.int .u8 0,.int .u8 0,.int .u8 0,.int .u8 0,.int .u8 0,.int .u8 0,.int .u8 0,.int .u8 0,.int .u8 0,.int .u8 0,.int .u8 0,.int .u8 0,.int .u8 0,.int .u8 0,.int .u8 0,.int .u8 0,.int .u8 0,.int .u8 0])) ps).map .agg:=by kernel_rfl
theorem un192 : Tryz.prog.underlying 192 = some (.int .i64):=by kernel_rfl
theorem sz192 : sizeT Tryz.prog 192 = some 1:=by kernel_rfl
theorem ag192 : isAggT Tryz.prog 192 = some false:=by kernel_rfl
theorem zr192 : zeroT Tryz.prog 192 = some (.int .i64 0):=by kernel_rfl
theorem by192 : bytesT Tryz.prog 192 = some 8:=by kernel_rfl
theorem un201 : Tryz.prog.underlying 201 = some (.int .u64):=by kernel_rfl
theorem sz201 : sizeT Tryz.prog 201 = some 1:=by kernel_rfl
theorem ag201 : isAggT Tryz.prog 201 = some false:=by kernel_rfl
theorem zr201 : zeroT Tryz.prog 201 = some (.int .u64 0):=by kernel_rfl
theorem by201 : bytesT Tryz.prog 201 = some 8:=by kernel_rfl
theorem un203 : Tryz.prog.underlying 203 = some (.int .u64):=by kernel_rfl
theorem sz203 : sizeT Tryz.prog 203 = some 1:=by kernel_rfl
theorem ag203 : isAggT Tryz.prog 203 = some false:=by kernel_rfl
theorem zr203 : zeroT Tryz.prog 203 = some (.int .u64 0):=by kernel_rfl
theorem by203 : bytesT Tryz.prog 203 = some 8:=by kernel_rfl
theorem un208 : Tryz.prog.underlying 208 = some (.pointer 203):=by kernel_rfl
theorem sz208 : sizeT Tryz.prog 208 = some 1:=by kernel_rfl
theorem ag208 : isAggT Tryz.prog 208 = some false:=by kernel_rfl
theorem zr208 : zeroT Tryz.prog 208 = some (.nilp):=by kernel_rfl
theorem by208 : bytesT Tryz.prog 208 = some 8:=by kernel_rfl
theorem bo3 : bodied Tryz.prog 3 = true:=by kernel_rfl
theorem bo4 : bodied Tryz.prog 4 = true:=by kernel_rfl
theorem bo5 : bodied Tryz.prog 5 = true:=by kernel_rfl
theorem bo6 : bodied Tryz.prog 6 = true:=by kernel_rfl
theorem bo7 : bodied Tryz.prog 7 = true:=by kernel_rfl
theorem bo9 : bodied Tryz.prog 9 = true:=by kernel_rfl
theorem bo10 : bodied Tryz.prog 10 = true:=by kernel_rfl
theorem bo11 : bodied Tryz.prog 11 = true:=by kernel_rfl
theorem bo12 : bodied Tryz.prog 12 = true:=by kernel_rfl
theorem bo16 : bodied Tryz.prog 16 = true:=by kernel_rfl
theorem bo17 : bodied Tryz.prog 17 = true:=by kernel_rfl
theorem bo18 : bodied Tryz.prog 18 = true:=by kernel_rfl
theorem bo19 : bodied Tryz.prog 19 = true:=by kernel_rfl
theorem bo20 : bodied Tryz.prog 20 = true:=by kernel_rfl
theorem bo21 : bodied Tryz.prog 21 = true:=by kernel_rfl
theorem bo22 : bodied Tryz.prog 22 = true:=by kernel_rfl
theorem bo23 : bodied Tryz.prog 23 = true:=by kernel_rfl
theorem bo28 : bodied Tryz.prog 28 = true:=by kernel_rfl
theorem bo29 : bodied Tryz.prog 29 = true:=by kernel_rfl
theorem bo30 : bodied Tryz.prog 30 = true:=by kernel_rfl
theorem bo31 : bodied Tryz.prog 31 = true:=by kernel_rfl
theorem bo32 : bodied Tryz.prog 32 = true:=by kernel_rfl
theorem bo33 : bodied Tryz.prog 33 = true:=by kernel_rfl
theorem bo34 : bodied Tryz.prog 34 = true:=by kernel_rfl
theorem bo35 : bodied Tryz.prog 35 = true:=by kernel_rfl
theorem bo36 : bodied Tryz.prog 36 = true:=by kernel_rfl
theorem bo37 : bodied Tryz.prog 37 = true:=by kernel_rfl
theorem bo47 : bodied Tryz.prog 47 = true:=by kernel_rfl
theorem bo48 : bodied Tryz.prog 48 = true:=by kernel_rfl
theorem bo49 : bodied Tryz.prog 49 = true:=by kernel_rfl
theorem bo50 : bodied Tryz.prog 50 = true:=by kernel_rfl
theorem bo51 : bodied Tryz.prog 51 = true:=by kernel_rfl
theorem bo52 : bodied Tryz.prog 52 = true:=by kernel_rfl
theorem bo53 : bodied Tryz.prog 53 = true:=by kernel_rfl
theorem bo60 : bodied Tryz.prog 60 = true:=by kernel_rfl
theorem bo62 : bodied Tryz.prog 62 = true:=by kernel_rfl
theorem bo63 : bodied Tryz.prog 63 = true:=by kernel_rfl
theorem bo64 : bodied Tryz.prog 64 = true:=by kernel_rfl
theorem bo65 : bodied Tryz.prog 65 = true:=by kernel_rfl
theorem bo66 : bodied Tryz.prog 66 = true:=by kernel_rfl
theorem bo67 : bodied Tryz.prog 67 = true:=by kernel_rfl
theorem bo68 : bodied Tryz.prog 68 = true:=by kernel_rfl
theorem bo69 : bodied Tryz.prog 69 = true:=by kernel_rfl
theorem bo70 : bodied Tryz.prog 70 = true:=by kernel_rfl
theorem bo81 : bodied Tryz.prog 81 = true:=by kernel_rfl
theorem bo82 : bodied Tryz.prog 82 = true:=by kernel_rfl
theorem bo84 : bodied Tryz.prog 84 = true:=by kernel_rfl
theorem bo85 : bodied Tryz.prog 85 = true:=by kernel_rfl
theorem bo86 : bodied Tryz.prog 86 = true:=by kernel_rfl
theorem bo87 : bodied Tryz.prog 87 = true:=by kernel_rfl
theorem bo88 : bodied Tryz.prog 88 = true:=by kernel_rfl
theorem bo89 : bodied Tryz.prog 89 = true:=by kernel_rfl
theorem bo90 : bodied Tryz.prog 90 = true:=by kernel_rfl
theorem bo91 : bodied Tryz.prog 91 = true:=by kernel_rfl
theorem bo92 : bodied Tryz.prog 92 = true:=by kernel_rfl
theorem bo93 : bodied Tryz.prog 93 = true:=by kernel_rfl
theorem bo107 : bodied Tryz.prog 107 = true:=by kernel_rfl
theorem bo108 : bodied Tryz.prog 108 = true:=by kernel_rfl
theorem bo109 : bodied Tryz.prog 109 = true:=by kernel_rfl
theorem bo110 : bodied Tryz.prog 110 = true:=by kernel_rfl
theorem bo111 : bodied Tryz.prog 111 = true:=by kernel_rfl
attribute [go_sem] sz1 ag1 zr1 by1 un2 sz2 ag2 zr2 by2 un3 sz3 ag3 zr3 by3 un4 sz4 ag4 zr4 by4 un5 sz5 ag5 zr5 by5 un9 sz9 ag9 zr9 by9 un21 sz21 ag21 zr21 by21 un22 sz22
attribute [go_sem] ag22 zr22 by22 el22 un23 sz23 ag23 zr23 by23 el23 un27 sz27 ag27 zr27 by27 un29 sz29 ag29 zr29 by29 el29 un30 sz30 ag30
attribute [go_sem] zr30 by30 sz39 ag39 zr39 by39 jwz jwY jxv bd39 sz40 ag40 zr40 by40 jw3 jxD
attribute [go_sem] jxm bd40 un43 sz43 ag43 zr43 by43 un44 sz44 ag44 zr44 by44 el44 sz45 ag45 zr45 by45 jxc jw2 jxb bd45 sz46 ag46 zr46 by46 jwI jxt jxg bd46 sz47 ag47 by47
attribute [go_sem] jw1 jw0 jxJ sz48 ag48 by48 jxK jwQ jwx ag53 zr53 by53 ag54 zr54 by54 ag55 zr55 by55 un56 sz56 ag56 zr56 by56 sz57
attribute [go_sem] ag57 zr57 by57 jwU jxF bd57 sz58 ag58 zr58 by58 jwX jxk bd58 sz59 ag59 zr59 by59 jwL jwT bd59 sz60 ag60 zr60 by60 jxz jwC bd60 sz61 ag61 zr61 by61 jwM jwP bd61 sz62 ag62 zr62 by62 jw8 jxI
attribute [go_sem] bd62 sz63 ag63 zr63 by63 jxd jxN jwA bd63 sz64 ag64 zr64 by64 jwH jxG jwS bd64 un65 sz65 ag65 zr65 by65 el65 sz66 ag66 by66 jxL jxe sz67 ag67 by67 jwV jxf ag68 zr68 by68 sz69 ag69 zr69 by69
attribute [go_sem] jw9 jxE jwO bd69 sz70 ag70 zr70 by70 jxP jwB jwZ bd70 sz71 ag71 by71 jxq jwG jw5 jxO jxH sz72 ag72 by72 jw4 jxa jwJ jww jxu
attribute [go_sem] un77 sz77 ag77 zr77 by77 el77 un80 sz80 ag80 zr80 by80 el80
attribute [go_sem] un90 sz90 ag90 zr90 by90 bd90 un95 sz95 ag95 zr95 by95 un97
attribute [go_sem] sz97 ag97 zr97 by97 un98 sz98 ag98 zr98 by98
attribute [go_sem] un110 sz110 ag110 zr110 by110 un111 sz111 ag111 zr111 by111
attribute [go_sem] un122 sz122 ag122 zr122 by122 un124 sz124 ag124 zr124 by124 un126 sz126 ag126 zr126 by126 el126 un127 sz127 ag127
attribute [go_sem] zr127 by127 el127 sz128 ag128 by128 jvL jvC jvR jvN sz129 ag129 by129 juM jvb jvh jvm un132 sz132 ag132 zr132 by132 un133 sz133 ag133 zr133 by133 sz134 ag134 by134 jvU jvG jwk jvn sz135 ag135
attribute [go_sem] by135 jvT juE jv3 jwm un140 sz140 ag140 zr140 by140
attribute [go_sem] un148 sz148 ag148 zr148 by148 un151 sz151 ag151 zr151 by151 sz152 ag152 by152 jwe sz153 ag153 by153 jvz
attribute [go_sem] un156 sz156 ag156 zr156 by156 el156 un165 sz165 ag165 zr165 by165 un167
attribute [go_sem] sz167 ag167 zr167 by167 un172 sz172 ag172 zr172 by172 el172 un174 sz174 ag174 zr174 by174 bd174 sz175 ag175 zr175 by175 sz176 ag176 zr176 by176
attribute [go_sem] un178 sz178 ag178 zr178 by178 un179 sz179 ag179 zr179 by179 bd179 un180 sz180 ag180 zr180 by180 bd180 un181 sz181 ag181 zr181 by181 sz182 ag182 zr182 by182 jv5 ju5 bd182 sz183 ag183 zr183 by183 jwd jvH bd183
attribute [go_sem] un184 sz184 ag184 zr184 by184 bd184 un192 sz192 ag192 zr192 by192
attribute [go_sem] un201 sz201 ag201 zr201 by201 un203 sz203 ag203 zr203
attribute [go_sem] by203 un208 sz208 ag208 zr208 by208
end Go.Proofs.Zso
end
section
namespace Vm
open Go Go.RowKit
variable [Base]
def laysT (P : Program) : Nat -> List Field -> Option Nat
  | off,[]=>some off
  | off,f :: r=>if f.offset = off then laysT P (off + P.cellsOf f.type) r else none
def plain1 (P : Program) (S : List TypeId) (t : TypeId) : Bool:=
  match P.underlying t with
  | some .bool | some (.int _) | some .string=>P.cellsOf t == 1
  | some (.slice e)=>P.cellsOf t == 1 && S.contains e && decide (0 < P.cellsOf e)
  | some (.struct fs)=>(laysT P 0 fs.toList == some (P.cellsOf t)) && fs.toList.all fun f=>S.contains f.type
  | some (.array n e)=>(P.cellsOf t == n * P.cellsOf e) && S.contains e
  | _=>false
def plainS (P : Program) (S : List TypeId) : Bool:=S.all (plain1 P S)
omit [Base] in
theorem jip {P : Program} {S : List TypeId} (h : plainS P S = true) {t : TypeId} (ht : S.contains t = true) : plain1 P S t = true:=
  List.all_eq_true.1 h t (by simpa using ht)
def aggT (P : Program) (t : TypeId) : Bool:=(isAggT P t).getD false
mutual
inductive Typed (P : Program) : TypeId -> List D -> Prop
  | bool (t : TypeId) (b : Bool) (h : P.underlying t = some .bool) : Typed P t [.bool b]
  | int (t : TypeId) (k : IntKind) (n : Int) (h : P.underlying t = some (.int k)) (hn : (Lit.int k n).wf = true) : Typed P t [.int k n]
  | str (t : TypeId) (s : List UInt8) (h : P.underlying t = some .string) (hs : s.length <= maxLen) : Typed P t [.str s]
  | slice (t e : TypeId) (xs : List D) (h : P.underlying t = some (.slice e)) (hl : xs.length <= maxLen) (hx : TypedE P e xs) : Typed P t [.sl false xs]
  | struct (t : TypeId) (fs : Array Field) (ds : List D) (h : P.underlying t = some (.struct fs)) (hf : TypedF P (fs.toList.map (·.type)) ds) : Typed P t ds
  | array (t e : TypeId) (n : Nat) (ds : List D) (h : P.underlying t = some (.array n e)) (hf : TypedF P (List.replicate n e) ds) : Typed P t ds
inductive TypedE (P : Program) : TypeId -> List D -> Prop
  | nil (e : TypeId) : TypedE P e []
  | agg (e : TypeId) (cs : List D) (xs : List D) (ha : aggT P e = true) (h : Typed P e cs) (hr : TypedE P e xs) : TypedE P e (.agg cs :: xs)
  | one (e : TypeId) (x : D) (xs : List D) (ha : aggT P e = false) (h : Typed P e [x]) (hr : TypedE P e xs) : TypedE P e (x :: xs)
inductive TypedF (P : Program) : List TypeId -> List D -> Prop
  | nil : TypedF P [] []
  | cons (t : TypeId) (ts : List TypeId) (ds es : List D) (h : Typed P t ds) (hr : TypedF P ts es) : TypedF P (t :: ts) (ds ++ es)
end
inductive TypedA (P : Program) : List TypeId -> List D -> Prop
  | nil : TypedA P [] []
  | agg (t : TypeId) (ts : List TypeId) (cs ds : List D) (ha : aggT P t = true) (h : Typed P t cs) (hr : TypedA P ts ds) : TypedA P (t :: ts) (.agg cs :: ds)
  | one (t : TypeId) (ts : List TypeId) (d : D) (ds : List D) (ha : aggT P t = false) (h : Typed P t [d]) (hr : TypedA P ts ds) : TypedA P (t :: ts) (d :: ds)
def im0 (w : World) : Im:=fun b o=>w.cell? ⟨b,o,none⟩
theorem rel0 (w : World) (ρ : Rho) (hB : ∀ b o v,Base.B b o = some v -> im0 w b o = some v) : Rel ρ (im0 w) [] w:=
  ⟨fun b o v h=>h,fun r hr=>by simp at hr,fun r s hr=>by simp at hr,fun r hr=>by simp at hr,hB,fun r hr=>by simp at hr⟩
omit [Base] in
omit [Base] in
theorem cells?_spec {w : World} {a : Addr} {m : Nat} {cs : List Value} (h : w.cells? 0 a m = some cs) : cs.length = m /\ ∀ j,j < m -> w.cell? (a.add j) = cs[j]?:=by
  unfold World.cells? at h
  rw [if_pos (Nat.zero_le _)] at h
  have key : ∀ (l : List Nat) (cs : List Value),l.mapM (fun i=>w.cell? (a.add i)) = some cs -> cs.length = l.length /\ ∀ (j : Nat) (i : Nat),l[j]? = some i -> w.cell? (a.add i) = cs[j]?:=by
    intro l
    induction l with
    | nil=>intro cs h;simp at h;subst h;simp
    | cons x l ih=>
      intro cs h
      rw [List.mapM_cons] at h
      cases hx : w.cell? (a.add x) with
      | none=>simp [hx] at h
      | some v=>
        cases hl : l.mapM (fun i=>w.cell? (a.add i)) with
        | none=>simp [hx,hl] at h
        | some vs=>
          simp [hx,hl] at h;subst h
          obtain ⟨h1,h2⟩:=ih vs hl
          refine ⟨by simp [h1],fun j i hj=>?_⟩
          cases j with
          | zero=>simp at hj;subst hj;simp [hx]
          | succ j=>simpa using h2 j i (by simpa using hj)
  obtain ⟨h1,h2⟩:=key _ _ h
  refine ⟨by simpa using h1,fun j hj=>h2 j j (by simp [hj])⟩
omit [Base] in
theorem ju6 (a : Addr) (x y : Nat) (hs : a.spot = none) : (a.add x).add y = a.add (x + y):=by
  obtain ⟨b,o,s⟩:=a
  simp at hs;subst hs
  simp [jaU,Nat.add_assoc]
omit [Base] in
theorem jiS {P : Program} {t : TypeId} {ds : List D} (h : Typed P t ds) (ha : aggT P t = false) : ∃ d,ds = [d] /\ (∀ cs,d ≠ .agg cs):=by
  cases h with
  | bool b h=>exact ⟨_,rfl,fun cs h=>by cases h⟩
  | int k n h hn=>exact ⟨_,rfl,fun cs h=>by cases h⟩
  | str s h hs=>exact ⟨_,rfl,fun cs h=>by cases h⟩
  | slice e xs h hl hx=>exact ⟨_,rfl,fun cs h=>by cases h⟩
  | struct=>rename_i h hf;simp [aggT,isAggT,h] at ha
  | array=>rename_i h hf;simp [aggT,isAggT,h] at ha
section
variable {H : Type} {enc : TypeId × Value -> H} {P : Program} {w : World} {spare : Nat -> Bool} {ρ : Rho} {n : Nat}
omit [Base] in
theorem jh1 {k : Nat} {t : TypeId} {cs : List Value} {fs : Array Field} (hu : P.underlying t = some (.struct fs)) : DataW.trod enc P w 0 spare true (k + 1) t cs =
    if cs.length = P.cellsOf t then (fs.toList.mapM fun f=>DataW.trod enc P w 0 spare true k f.type ((cs.drop f.offset).take (P.cellsOf f.type))).map fun xs=>(.agg (xs.map (·.1)),xs.flatMap (·.2)) else none:=by
  conv=>lhs;unfold DataW.trod
  rw [hu]
omit [Base] in
theorem jjs {k m : Nat} {t e : TypeId} {cs : List Value} (hu : P.underlying t = some (.array m e)) : DataW.trod enc P w 0 spare true (k + 1) t cs =
    if cs.length = P.cellsOf t then ((List.range m).mapM fun i=>DataW.trod enc P w 0 spare true k e ((cs.drop (i * P.cellsOf e)).take (P.cellsOf e))).map fun xs=>(.agg (xs.map (·.1)),xs.flatMap (·.2)) else none:=by
  conv=>lhs;unfold DataW.trod
  rw [hu]
omit [Base] in
theorem jg5 {S : List TypeId} (hS : plainS P S = true) : ∀ (k : Nat) (t : TypeId) (cs : List Value) (x : DataW H × List MemPlace),DataW.trod enc P w 0 spare true k t cs = some x -> S.contains t = true ->
    ∃ ds,RepL ρ n (im0 w) cs ds /\ Typed P t ds
  | 0,t,cs,x,h,hp=>by simp [DataW.trod] at h
  | k + 1,t,cs,x,h,hp=>by
    have ih:=fun t cs x=>jg5 hS k t cs x
    replace hp:=jip hS hp
    simp only [plain1] at hp
    cases hu : P.underlying t with
    | none=>simp [hu] at hp
    | some td=>
      rw [hu] at hp
      have h':=h
      unfold DataW.trod at h
      rw [hu] at h
      cases td <;> simp only at hp <;> try (cases hp;done)
      case bool=>
        split at h <;> rename_i heq <;> first | (cases heq;done) | skip
        all_goals (first | (cases h;done) | skip)
        rename_i b
        exact ⟨[.bool b],.cons _ _ _ _ rfl (.bool b) .nil,.bool t b hu⟩
      case int kk=>
        split at h <;> rename_i heq <;> first | (cases heq;done) | skip
        all_goals (first | (cases h;done) | skip)
        cases heq
        split at h
        · rename_i hc
          obtain ⟨rfl,hw⟩:=hc
          exact ⟨[.int _ _],.cons _ _ _ _ rfl (.int _ _) .nil,.int t _ _ hu hw⟩
        · cases h
      case string=>
        split at h <;> rename_i heq <;> first | (cases heq;done) | skip
        all_goals (first | (cases h;done) | skip)
        rename_i s
        split at h
        · rename_i hc
          have hl : s.data.toList.length = s.size:=by rw [Array.length_toList];rfl
          exact ⟨[.str s.data.toList],.cons _ _ _ _ rfl (.str s) .nil,.str t _ hu (by omega)⟩
        · cases h
      case slice e=>
        simp only [Bool.and_eq_true,decide_eq_true_eq] at hp
        obtain ⟨⟨_,hpe⟩,hpos⟩:=hp
        split at h <;> rename_i heq <;> first | (cases heq;done) | skip
        all_goals (first | (cases h;done) | skip)
        · cases heq
          exact ⟨[.sl false []],.cons _ _ _ _ rfl (.sl0 _ _ _ (by simp)) .nil,.slice t e [] hu (Nat.zero_le _) (.nil e)⟩
        · rename_i a len cap
          cases heq
          split at h
          · rename_i hc
            obtain ⟨_,hlc,hcm⟩:=hc
            dsimp only at h
            cases hm : (List.range len).mapM (fun i=>(w.cells? 0 (a.add (i * P.cellsOf e)) (P.cellsOf e)).bind (DataW.trod enc P w 0 spare true k e)) with
            | none=>rw [hm] at h;simp at h
            | some elems=>
              -- element by element
              have key : ∀ (l : List Nat) (el : List (DataW H × List MemPlace)), l.mapM (fun i => (w.cells? 0 (a.add (i * P.cellsOf e)) (P.cellsOf e)).bind (DataW.trod enc P w 0 spare true k e)) = some el →
                  ∀ s,(∀ (j i : Nat),l[j]? = some i -> i = s + j) -> (l ≠ [] -> a.spot = none) ->
                  ∃ xs vs,xs.length = l.length /\ TypedE P e xs /\ RepL ρ n (im0 w) vs (flatC xs) /\ (∀ y,y ∈ xs -> y.cells.length = P.cellsOf e) /\ ∀ q,q < vs.length -> w.cell? (a.add (s * P.cellsOf e + q)) = vs[q]?:=by
                intro l
                induction l with
                | nil=>intro el _ s _ _;exact ⟨[],[],rfl,.nil e,.nil,by simp,by simp⟩
                | cons i l ihl=>
                  intro el hel s hs hsp
                  rw [List.mapM_cons] at hel
                  have hi : i = s:=by simpa using hs 0 i rfl
                  subst hi
                  cases hcs : w.cells? 0 (a.add (i * P.cellsOf e)) (P.cellsOf e) with
                  | none=>simp [hcs] at hel
                  | some ci=>
                    cases htr : DataW.trod enc P w 0 spare true k e ci with
                    | none=>simp [hcs,htr] at hel
                    | some xi=>
                      cases hrest : l.mapM (fun i=>(w.cells? 0 (a.add (i * P.cellsOf e)) (P.cellsOf e)).bind (DataW.trod enc P w 0 spare true k e)) with
                      | none=>simp [hcs,htr,hrest] at hel
                      | some er=>
                        obtain ⟨ds,hds,hty⟩:=ih e ci xi htr hpe
                        obtain ⟨hcl,hcell⟩:=cells?_spec hcs
                        have hsp':=hsp (by simp)
                        obtain ⟨xs,vs,h1,h2,h3,h4,h5⟩:=ihl er hrest (i + 1) (fun j i' hj=>by have:=hs (j + 1) i' (by simpa using hj);omega) (fun _=>hsp')
                        have hdl : ds.length = P.cellsOf e:=by rw [<- hds.length,hcl]
                        have fin : ∀ x : D,x.cells = ds -> TypedE P e (x :: xs) -> ∃ xs vs,xs.length = (i :: l).length /\ TypedE P e xs /\ RepL ρ n (im0 w) vs (flatC xs) /\ (∀ y,y ∈ xs -> y.cells.length = P.cellsOf e) /\ ∀ q,q < vs.length -> w.cell? (a.add (i * P.cellsOf e + q)) = vs[q]?:=by
                          intro x hxc hte
                          refine ⟨x :: xs,ci ++ vs,by simp [h1],hte,?_,?_,?_⟩
                          · simp only [flatC,List.flatMap_cons,hxc];exact hds.append h3
                          · intro y hy
                            rcases List.mem_cons.1 hy with rfl | hy
                            · rw [hxc];exact hdl
                            · exact h4 y hy
                          · intro q hq
                            rcases Nat.lt_or_ge q ci.length with hlt | hge
                            · rw [List.getElem?_append_left hlt,<- hcell q (by omega),ju6 a _ _ hsp']
                            · rw [List.getElem?_append_right hge,<- h5 (q - ci.length) (by simp at hq;omega)]
                              congr 2
                              rw [Nat.add_mul];omega
                        cases ha : aggT P e with
                        | true=>exact fin (.agg ds) rfl (.agg e ds xs ha hty h2)
                        | false=>
                          obtain ⟨d,rfl,hna⟩:=jiS hty ha
                          exact fin d (by cases d <;> first | rfl | exact (hna _ rfl).elim) (.one e d xs ha hty h2)
              have hspot : List.range len ≠ [] -> a.spot = none:=by
                intro hne
                have hl0 : 0 < len:=by cases len with
                  | zero=>simp at hne
                  | succ _=>omega
                obtain ⟨l',hl'⟩ : ∃ l',List.range len = 0 :: l':=⟨(List.range len).tail,by cases len with
                  | zero=>omega
                  | succ m=>simp [List.range_succ_eq_map]⟩
                rw [hl',List.mapM_cons] at hm
                cases hcs : w.cells? 0 (a.add (0 * P.cellsOf e)) (P.cellsOf e) with
                | none=>simp only [hcs] at hm;simp at hm
                | some ci=>
                  obtain ⟨hcl,hcell⟩:=cells?_spec hcs
                  have h0:=hcell 0 hpos
                  rw [List.getElem?_eq_getElem (by omega)] at h0
                  have e1 : (a.add (0 * P.cellsOf e)).add 0 = a:=by simp [Addr.add]
                  rw [e1] at h0
                  unfold World.cell? at h0
                  split at h0
                  · split at h0
                    · cases h0
                    · rename_i hs;simpa using hs
                  · cases h0
              obtain ⟨xs,vs,h1,h2,h3,h4,h5⟩:=key (List.range len) elems hm 0 (fun j i hj=>by
                rw [List.getElem?_range] at hj
                · simp at hj;omega
                · rcases Nat.lt_or_ge j len with h | h
                  · exact h
                  · rw [List.getElem?_eq_none (by simpa using h)] at hj;cases hj) hspot
              have hxl : xs.length = len:=by simpa using h1
              cases hxs : xs with
              | nil=>
                subst hxs
                simp at hxl;subst hxl
                exact ⟨[.sl false []],.cons _ _ _ _ rfl (.sl0 _ _ _ (by simp)) .nil,.slice t e [] hu (Nat.zero_le _) (.nil e)⟩
              | cons x xr=>
                have hsn:=hspot (by rw [hxs] at hxl;simp at hxl;intro h0;have:=congrArg List.length h0;simp at this;omega)
                obtain ⟨b,o,sp⟩:=a
                simp at hsn;subst hsn
                refine ⟨[.sl false xs],.cons _ _ _ _ rfl ?_ .nil,.slice t e xs hu (by omega) h2⟩
                rw [<- hxl]
                refine .sl b o (P.cellsOf e) cap false xs vs h4 (fun q hq=>?_) h3 (by simp) (by omega)
                have:=h5 q hq
                rw [jaU] at this
                simpa [im0] using this
          · cases h
      case struct fs=>
        simp only [Bool.and_eq_true,beq_iff_eq,List.all_eq_true] at hp
        obtain ⟨hlay,hall⟩:=hp
        have hbody : cs.length = P.cellsOf t /\ ∃ xs,(fs.toList.mapM fun f=>DataW.trod enc P w 0 spare true k f.type ((cs.drop f.offset).take (P.cellsOf f.type))) = some xs:=by
          rw [jh1 hu] at h'
          split at h'
          · rename_i hc
            cases hm : (fs.toList.mapM fun f=>DataW.trod enc P w 0 spare true k f.type ((cs.drop f.offset).take (P.cellsOf f.type))) with
            | none=>simp [hm] at h'
            | some xs=>exact ⟨hc,xs,rfl⟩
          · cases h'
        obtain ⟨hcl,xs,hm⟩:=hbody
        have key : ∀ (l : List Field) (off : Nat) (xs : List (DataW H × List MemPlace)),laysT P off l = some (P.cellsOf t) -> (∀ f,f ∈ l -> S.contains f.type = true) ->
            (l.mapM fun f=>DataW.trod enc P w 0 spare true k f.type ((cs.drop f.offset).take (P.cellsOf f.type))) = some xs -> ∃ ds,RepL ρ n (im0 w) (cs.drop off) ds /\ TypedF P (l.map (·.type)) ds:=by
          intro l
          induction l with
          | nil=>
            intro off xs hl _ _
            simp [laysT] at hl
            rw [List.drop_eq_nil_of_le (by omega)]
            exact ⟨[],.nil,.nil⟩
          | cons f l ihl=>
            intro off xs hl hpl hml
            simp only [laysT] at hl
            split at hl
            · rename_i hoff
              rw [List.mapM_cons] at hml
              cases htr : DataW.trod enc P w 0 spare true k f.type ((cs.drop f.offset).take (P.cellsOf f.type)) with
              | none=>simp [htr] at hml
              | some x0=>
                cases hrest : (l.mapM fun f=>DataW.trod enc P w 0 spare true k f.type ((cs.drop f.offset).take (P.cellsOf f.type))) with
                | none=>simp [htr,hrest] at hml
                | some xr=>
                  obtain ⟨ds,h1,h2⟩:=ih f.type _ _ htr (hpl f (by simp))
                  obtain ⟨es,h3,h4⟩:=ihl (off + P.cellsOf f.type) xr hl (fun g hg=>hpl g (by simp [hg])) hrest
                  refine ⟨ds ++ es,?_,.cons _ _ _ _ h2 h4⟩
                  have e1 : cs.drop off = (cs.drop f.offset).take (P.cellsOf f.type) ++ cs.drop (off + P.cellsOf f.type):=by
                    rw [hoff,<- List.drop_drop,List.take_append_drop]
                  rw [e1]
                  exact h1.append h3
            · cases hl
        obtain ⟨ds,h1,h2⟩:=key fs.toList 0 xs hlay hall hm
        exact ⟨ds,by simpa using h1,.struct t fs ds hu h2⟩
      case array m e=>
        simp only [Bool.and_eq_true,beq_iff_eq] at hp
        obtain ⟨hsz,hpe⟩:=hp
        have hbody : cs.length = P.cellsOf t /\ ∃ xs,((List.range m).mapM fun i=>DataW.trod enc P w 0 spare true k e ((cs.drop (i * P.cellsOf e)).take (P.cellsOf e))) = some xs:=by
          rw [jjs hu] at h'
          split at h'
          · rename_i hc
            cases hm : ((List.range m).mapM fun i=>DataW.trod enc P w 0 spare true k e ((cs.drop (i * P.cellsOf e)).take (P.cellsOf e))) with
            | none=>simp [hm] at h'
            | some xs=>exact ⟨hc,xs,rfl⟩
          · cases h'
        obtain ⟨hcl,xs,hm⟩:=hbody
        have key : ∀ (r s : Nat) (xs : List (DataW H × List MemPlace)),s + r = m ->
            ((List.range' s r).mapM fun i=>DataW.trod enc P w 0 spare true k e ((cs.drop (i * P.cellsOf e)).take (P.cellsOf e))) = some xs -> ∃ ds,RepL ρ n (im0 w) (cs.drop (s * P.cellsOf e)) ds /\ TypedF P (List.replicate r e) ds:=by
          intro r
          induction r with
          | zero=>
            intro s xs hs _
            rw [List.drop_eq_nil_of_le (by rw [hcl, hsz]; have : s = m := by omega
                                           subst this;exact Nat.le_refl _)]
            exact ⟨[],.nil,.nil⟩
          | succ r ihr=>
            intro s xs hs hml
            rw [List.range'_succ,List.mapM_cons] at hml
            cases htr : DataW.trod enc P w 0 spare true k e ((cs.drop (s * P.cellsOf e)).take (P.cellsOf e)) with
            | none=>simp [htr] at hml
            | some x0=>
              cases hrest : ((List.range' (s + 1) r).mapM fun i=>DataW.trod enc P w 0 spare true k e ((cs.drop (i * P.cellsOf e)).take (P.cellsOf e))) with
              | none=>simp [htr,hrest] at hml
              | some xr=>
                obtain ⟨ds,h1,h2⟩:=ih e _ _ htr hpe
                obtain ⟨es,h3,h4⟩:=ihr (s + 1) xr (by omega) hrest
                refine ⟨ds ++ es,?_,.cons _ _ _ _ h2 h4⟩
                have e1 : cs.drop (s * P.cellsOf e) = (cs.drop (s * P.cellsOf e)).take (P.cellsOf e) ++ cs.drop ((s + 1) * P.cellsOf e):=by
                  rw [Nat.add_mul,Nat.one_mul,<- List.drop_drop,List.take_append_drop]
                rw [e1]
                exact h1.append h3
        rw [List.range_eq_range'] at hm
        obtain ⟨ds,h1,h2⟩:=key m 0 xs (by omega) hm
        exact ⟨ds,by simpa using h1,.array t e m ds hu h2⟩
end
end Vm
end
section
namespace Vm
open Go Go.RowKit
section
variable {H : Type} {enc : TypeId × Value -> H} {P : Program} {w : World}
theorem jmq         {S : List TypeId} (hS : plainS P S = true) {t : TypeId} {v : Value} {d : DataW H} {ps : List MemPlace} {ρ : Rho} {n : Nat} (h : DataW.Trod enc P w 0 (fun _ => true) true t v d ps) (hp : S.contains t = true) {base : Nat} (hv : Value.okWide P w .any base t v) :
    ∃ x,Rep ρ n (im0 w) v x /\ ((aggT P t = true /\ ∃ cs,x = .agg cs /\ Typed P t cs) ∨ (aggT P t = false /\ Typed P t [x])):=by
  obtain ⟨fuel,hf⟩:=h
  obtain ⟨ds,hds,hty⟩:=jg5 (ρ:=ρ) (n:=n) hS fuel t _ _ hf hp
  cases ha : aggT P t with
  | true=>
    have : ∃ cs,v = .agg cs:=by
      unfold Value.okWide at hv
      unfold aggT isAggT at ha
      cases hu : P.underlying t with
      | none=>simp [hu] at ha
      | some td=>
        cases td <;> simp [hu] at ha
        all_goals (simp only [hu] at hv;obtain ⟨cs,rfl,_⟩:=hv;exact ⟨cs,rfl⟩)
    obtain ⟨⟨cs⟩,rfl⟩:=this
    exact ⟨.agg ds,.agg cs ds (by simpa [Value.cells] using hds),.inl ⟨rfl,ds,rfl,hty⟩⟩
  | false=>
    obtain ⟨x,rfl,hna⟩:=jiS hty ha
    have hcell : v.cells.toList = [v]:=by
      have : ∀ cs,v ≠ .agg cs:=by
        rintro cs rfl
        have hp1:=jip hS hp
        unfold plain1 at hp1
        unfold Value.okWide at hv
        cases hu : P.underlying t with
        | none=>simp [hu] at hp1
        | some td=>
          cases td <;> simp [hu] at hp1 <;> simp only [hu] at hv <;> first
            | (simp [Cell.okWide,Cell.ok,hu] at hv;done)
            | (simp [aggT,isAggT,hu] at ha;done)
      cases v <;> first | rfl | exact (this _ rfl).elim
    rw [hcell] at hds
    cases hds with
    | cons _ _ _ _ _ hr _=>exact ⟨x,hr,.inr ⟨rfl,hty⟩⟩
theorem jhF        {S : List TypeId} (hS : plainS P S = true) {ρ : Rho} {n : Nat} : ∀ {ts : List TypeId} {vs : List Value} {ds : List (DataW H)} {ps : List MemPlace}, DataW.TrodAll enc P w 0 (fun _ => true) true ts vs ds ps →
    (∀ t ∈ ts,S.contains t = true) -> (∀ (j : Nat) t v,ts[j]? = some t -> vs[j]? = some v -> ∃ base,Value.okWide P w .any base t v) -> ∃ Ds,RepA ρ n (im0 w) vs Ds /\ TypedA P ts Ds
  | [],[],[],ps,h,_,_=>⟨[],.nil,.nil⟩
  | t :: ts,v :: vs,d :: ds,ps,h,hp,hv=>by
    obtain ⟨p,q,h1,h2,_⟩:=h
    obtain ⟨base,hv0⟩:=hv 0 t v rfl rfl
    obtain ⟨x,hx,hc⟩:=jmq hS (ρ:=ρ) (n:=n) h1 (hp t (by simp)) hv0
    obtain ⟨Ds,g1,g2⟩:=jhF hS (ρ:=ρ) (n:=n) h2 (fun t ht=>hp t (by simp [ht])) (fun j t v a b=>hv (j + 1) t v (by simpa using a) (by simpa using b))
    refine ⟨x :: Ds,.cons _ _ _ _ hx g1,?_⟩
    rcases hc with ⟨ha,cs,rfl,hty⟩ | ⟨ha,hty⟩
    · exact .agg t ts cs Ds ha hty g2
    · exact .one t ts x Ds ha hty g2
  | [],_ :: _,_,_,h,_,_=>by simp [DataW.TrodAll] at h
  | [],[],_ :: _,_,h,_,_=>by simp [DataW.TrodAll] at h
  | _ :: _,[],_,_,h,_,_=>by simp [DataW.TrodAll] at h
  | _ :: _,_ :: _,[],_,h,_,_=>by simp [DataW.TrodAll] at h
theorem jeB           {W W' : World} (hl : laidOutB P = true) (hb : Below W.heap.size W W') : ∀ {ts : List TypeId} {vs : List Value} {ds : List (DataW H)} {ps : List MemPlace}, DataW.TrodAll enc P W 0 (fun _ => true) true ts vs ds ps →
    (∀ t ∈ ts,P.readableRec t = true /\ t < P.types.size) -> (∀ x ∈ ps,x.block < W.heap.size) -> DataW.TrodAll enc P W' 0 (fun b=>decide (b < W.heap.size)) true ts vs ds ps
  | [],[],[],ps,h,_,_=>h
  | t :: ts,v :: vs,d :: ds,ps,h,ht,hlt=>by
    obtain ⟨p,q,h1,h2,rfl⟩:=h
    exact ⟨p,q,Below.trod hl (ht t (by simp)).1 (ht t (by simp)).2 h1 hb (fun x hx=>hlt x (by simp [hx])),jeB hl hb h2 (fun t h=>ht t (by simp [h])) (fun x hx=>hlt x (by simp [hx])),rfl⟩
  | [],_ :: _,_,_,h,_,_=>by simp [DataW.TrodAll] at h
  | [],[],_ :: _,_,h,_,_=>by simp [DataW.TrodAll] at h
  | _ :: _,[],_,_,h,_,_=>by simp [DataW.TrodAll] at h
  | _ :: _,_ :: _,[],_,h,_,_=>by simp [DataW.TrodAll] at h
theorem Tr.below {ρ ρ' : Rho} {H' : Heap} {W W' : World} (h : Tr ρ [] W ρ' H' W') : Below W.heap.size W W':=
  ⟨h.os,h.tape,h.output,h.size,fun k hk=>h.keep k hk (fun r hr=>by simp at hr)⟩
end
theorem jjS {C : Checked} {f : FuncId} {fn : Func} {s : ChangeSpec} {H : Type} {enc : TypeId × Value -> H} {A : Ann} {S : List TypeId} {tb : TypeId} (hvars : s.vars = []) (hl : laidOutB C.prog = true)
    (hts : ∀ t ∈ fn.params.toList,C.prog.readableRec t = true /\ t < C.prog.types.size) (hS : plainS C.prog S = true) (hpl : (fn.params.toList.all fun t=>S.contains t) = true)
    (hbod : bodied C.prog f = true) (hres : fn.resultTypes = #[tb]) (htb : C.prog.underlying tb = some .bool)
    (hs : ∀ ds : List (DataW H),ds.length = fn.params.size -> (s.fn H ds).results = [.lit (.bool true)] /\ (s.fn H ds).args = ds /\ (s.fn H ds).vars = [])
    (hrun : ∀ Ds,TypedA C.prog fn.params.toList Ds -> ∃ k H',runF C.prog A k f Ds [] = some (.ok (.bool true) H')) :
    ∀ (W : World) (base : Nat) (args : Array Value) (ds gs : List (DataW H)) (before : List MemPlace),
      (∀ (j : Nat) t v,fn.params[j]? = some t -> args[j]? = some v -> Value.okWide C.prog W .any base t v) ->
      DataW.Whole enc C.prog fn.params.toList s.vars false W args.toList ds gs before -> @PrimOk ⟨im0 W⟩ C.prog A ->
      Calls C.prog f args W fun e W'=>∃ v,e = .returned v /\ s.post enc C.prog fn false true false false W args v W':=by
  intro W base args ds gs before hval hW hA
  letI : Base:=⟨im0 W⟩
  have hW':=hW
  obtain ⟨p,q,hAll,hV,hps,hfz,hnd⟩:=hW
  rw [hvars] at hV
  have hgq : gs = [] /\ q = []:=by
    cases gs with
    | nil=>exact ⟨rfl,by simpa [DataW.TrodVars] using hV⟩
    | cons g gs=>simp [DataW.TrodVars] at hV
  obtain ⟨rfl,rfl⟩:=hgq
  obtain ⟨Ds,hrep,hty⟩:=jhF hS (ρ:=fun _=>default) (n:=0) hAll (fun t ht=>List.all_eq_true.1 hpl t ht) (fun j t v a b=>⟨base,hval j t v (by simpa using a) (by simpa using b)⟩)
  obtain ⟨k,H',hk⟩:=hrun Ds hty
  have hc:=(jdd C.mixed hA k f Ds [] _ hk (fun _=>default) (im0 W) W args.toList (rel0 W _ fun _ _ _ h=>h) hrep).calls hbod
  refine hc.mono fun e W' hout=>?_
  cases hout with
  | ok ρ' im' _ _ v _ hm hv=>
    have hvb:=hv.bool_inv
    subst hvb
    have hb : Below W.heap.size W W':=hm.tr.below
    have hlen : ds.length = fn.params.size:=by
      have : ∀ {ts : List TypeId} {vs : List Value} {ds : List (DataW H)} {ps : List MemPlace},DataW.TrodAll enc C.prog W 0 (fun _=>true) true ts vs ds ps -> ds.length = ts.length:=by
        intro ts
        induction ts with
        | nil=>intro vs ds ps h;cases vs <;> cases ds <;> simp [DataW.TrodAll] at h ⊢
        | cons t ts ih=>
          intro vs ds ps h
          cases vs <;> cases ds <;> simp [DataW.TrodAll] at h ⊢
          obtain ⟨p,_,q,h2,_⟩:=h
          exact ih h2
      simpa using this hAll
    obtain ⟨h1,h2,h3⟩:=hs ds hlen
    refine ⟨_,rfl,ds,[],before,[],p,[],hW',?_,?_,?_,?_,fun h=>by cases h⟩
    · rw [List.append_nil,h1,hres]
      refine ⟨[],[],⟨1,?_⟩,rfl,rfl⟩
      simp [DataW.trod,htb,Value.cells,Value.resultList]
    · rw [List.append_nil,h2]
      refine jeB hl hb hAll hts fun x hx=>?_
      have:=hW'.lt x (by rw [hps];simp [hx])
      simpa using this
    · rw [List.append_nil,h3,hvars];rfl
    · exact hb.frame _
end Vm
end
section
namespace Vm
open Go
section
variable {P : Program}
theorem jfe {t : TypeId} {k : IntKind} {ds : List D} (hu : P.underlying t = some (.int k)) (h : Typed P t ds) : ∃ n,ds = [.int k n] /\ (Lit.int k n).wf = true:=by
  cases h with
  | bool _ b h=>rw [hu] at h;cases h
  | int _ k1 n h hn=>rw [hu] at h;cases h;exact ⟨n,rfl,hn⟩
  | str _ s h hs=>rw [hu] at h;cases h
  | slice _ e xs h hl hx=>rw [hu] at h;cases h
  | struct _ fs ds h hf=>rw [hu] at h;cases h
  | array _ e n ds h hf=>rw [hu] at h;cases h
theorem jfW {t e : TypeId} {ds : List D} (hu : P.underlying t = some (.slice e)) (h : Typed P t ds) : ∃ xs,ds = [.sl false xs] /\ xs.length <= maxLen /\ TypedE P e xs:=by
  cases h with
  | bool _ b h=>rw [hu] at h;cases h
  | int _ k1 n h hn=>rw [hu] at h;cases h
  | str _ s h hs=>rw [hu] at h;cases h
  | slice _ e xs h hl hx=>rw [hu] at h;cases h;exact ⟨xs,rfl,hl,hx⟩
  | struct _ fs ds h hf=>rw [hu] at h;cases h
  | array _ e n ds h hf=>rw [hu] at h;cases h
theorem jlc {t : TypeId} {fs : Array Field} {ds : List D} (hu : P.underlying t = some (.struct fs)) (h : Typed P t ds) : TypedF P (fs.toList.map (·.type)) ds:=by
  cases h with
  | bool _ b h=>rw [hu] at h;cases h
  | int _ k1 n h hn=>rw [hu] at h;cases h
  | str _ s h hs=>rw [hu] at h;cases h
  | slice _ e xs h hl hx=>rw [hu] at h;cases h
  | struct _ fs ds h hf=>rw [hu] at h;cases h;exact hf
  | array _ e n ds h hf=>rw [hu] at h;cases h
def fieldTs (P : Program) (t : TypeId) : Option (List TypeId):=
  match P.underlying t with
  | some (.struct fs)=>some (fs.toList.map (·.type))
  | _=>none
theorem jft {t : TypeId} {ts : List TypeId} {ds : List D} (hu : fieldTs P t = some ts) (h : Typed P t ds) : TypedF P ts ds:=by
  unfold fieldTs at hu
  split at hu
  · rename_i fs hs
    cases hu
    exact jlc hs h
  · cases hu
theorem jhn {ds : List D} (h : TypedF P [] ds) : ds = []:=by cases h;rfl
theorem jon {t : TypeId} {ts : List TypeId} {ds : List D} (ha : aggT P t = false) (h : TypedA P (t :: ts) ds) : ∃ d r,ds = d :: r /\ Typed P t [d] /\ TypedA P ts r:=by
  cases h with
  | agg _ _ cs _ ha' h hr=>rw [ha] at ha';cases ha'
  | one _ _ d ds ha' h hr=>exact ⟨d,ds,rfl,h,hr⟩
theorem typedA_nil {ds : List D} (h : TypedA P [] ds) : ds = []:=by cases h;rfl
end
end Vm
end
section
-- use:
namespace Go.Proofs.W
open Go Vm Go.Proofs.Zso
theorem jaH {a : D} (h : strip a = some a) : stripL [a] = some [a]:=by simp [stripL,h]
theorem jb7 {a b : D} (h : strip a = some a) (k : strip b = some b) : stripL [a,b] = some [a,b]:=by simp [stripL,h,k]
end Go.Proofs.W
end
section
namespace Vm
open Go
section
variable {P : Program} {A : Ann} {N : Nat}
def WpS (P : Program) (A : Ann) (N : Nat) (c : Code) (e : Env) (H : Heap) (m : Md) (Q : Ex -> Env -> Heap -> Md -> Prop) : Prop:=
  ∃ k s m',runS P A N (runC P A (runF P A k) k N) c e H m = some (s,m') /\ Q s.ex s.e s.H m'
def noRec : Code -> Bool
  | .seq a b=>noRec a && noRec b
  | .cond _ a b=>noRec a && noRec b
  | .region _ ops draw=>!(decide (draw = false) && ops.toList.any fun o=>recoverC o.op)
  | _=>true
theorem juK {k k' : Nat} (h : k <= k') {c : Code} {e : Env} {H : Heap} {m : Md} {x : St × Md} (hr : runS P A N (runC P A (runF P A k) k N) c e H m = some x) : runS P A N (runC P A (runF P A k') k' N) c e H m = some x:=
  jii (fun c e H s hs=>jcN h N c e H s hs) hr
theorem jpH {k : Nat} {m : Md} : ∀ {c : Code} {e : Env} {H : Heap} {s : St},noRec c = true -> runC P A (runF P A k) k N c e H = some s -> runS P A N (runC P A (runF P A k) k N) c e H m = some (s,m):=by
  intro c
  induction c with
  | seq a b iha ihb=>
    intro e H s hc h
    simp only [noRec,Bool.and_eq_true] at hc
    simp only [runC] at h
    simp only [runS]
    cases ha : runC P A (runF P A k) k N a e H with
    | none=>rw [ha] at h;cases h
    | some s1=>
      rw [iha hc.1 ha]
      rw [ha] at h
      obtain ⟨x,e1,H1⟩:=s1
      cases x with
      | norm=>simp only [Option.bind_some] at h ⊢;exact ihb hc.2 h
      | _=>simp only [Option.bind_some] at h ⊢;first | (cases h;rfl) | (simp at h;subst h;rfl)
  | cond o a b iha ihb=>
    intro e H s hc h
    simp only [noRec,Bool.and_eq_true] at hc
    simp only [runC] at h
    simp only [runS]
    split at h
    · exact iha hc.1 h
    · exact ihb hc.2 h
    · cases h
  | region id ops draw=>
    intro e H s hc h
    simp only [noRec,Bool.not_eq_true',Bool.and_eq_false_iff,decide_eq_false_iff_not] at hc
    simp only [runS]
    rw [if_neg (fun g=>hc.elim (fun hc=>hc g.1) (fun hc=>absurd (hc.symm.trans g.2) (by decide))),h]
    rfl
  | _=>intro e H s hc h;simp only [runS];rw [h];rfl
theorem wpS_calm {c : Code} {e : Env} {H : Heap} {m : Md} {Q : Ex -> Env -> Heap -> Md -> Prop} (hc : noRec c = true) (h : WpB P A N c e H (fun x e H=>Q x e H m)) : WpS P A N c e H m Q:=by
  unfold WpB at h
  obtain ⟨k,s,h1,h2⟩:=h
  exact ⟨k,s,m,jpH hc h1,h2⟩
def LvQ (P : Program) (A : Ann) (rs : List ResultVar) (K Kp : D -> Heap -> Prop) (e : Env) (l : List Dfr) (m : Md) (H : Heap) : Prop:=
  ∃ k r,leaveD P A (fun N=>runC P A (runF P A k) k N) rs e l m H = some r /\ (match r with | .ok d H'=>K d H' | .pan d H'=>Kp d H')
variable {rs : List ResultVar} {K Kp : D -> Heap -> Prop} {e : Env} {H : Heap} {l : List Dfr}
theorem jlL (hd : e.df = some l) (h : LvQ P A rs K Kp e l .ret H) : LeaveQ P A rs K Kp .norm e H:=by
  obtain ⟨k,r,h1,h2⟩:=h
  exact ⟨l,k,r,hd,h1,h2⟩
theorem jwn {ds : List D} (hr : resD P e H rs = some ds) (h : K (oneD ds) H) : LvQ P A rs K Kp e [] .ret H:=
  ⟨0,.ok (oneD ds) H,by simp [leaveD,hr],h⟩
theorem jkX {f : FuncId} {fn : Func} {c : Code} {n : Nat} {args : List D} {m : Md} (hf : P.funcs[f]? = some fn) (hb : fn.body = some c) (hn : (fn.name == "runtime.NumGoroutine") = false) (hN : fn.ntmps = n) (hr : fn.results.toList = []) (ha : Nat.ble args.length n = true)
    (h : WpS P A n c (ofArgs args) H m (fun x e2 H2 m2=>(x = .norm ∨ x = .ret) /\ e2.df = some [] /\ LvQ P A rs K Kp e l m2.settle H2)) : LvQ P A rs K Kp e (.call f args :: l) m H:=by
  subst hN
  obtain ⟨k,⟨x,e2,H2⟩,m2,h1,hx,hdf,k2,r,h2,h3⟩:=h
  have ha':=Nat.le_of_ble_eq_true ha
  have hcond : ¬ ((fn.name == "runtime.NumGoroutine" || decide (args.length > fn.ntmps)) = true):=by simp [hn];omega
  refine ⟨max k k2,r,?_,h3⟩
  have q1:=juK (Nat.le_max_left k k2) h1
  have q2:=jbn (fun N c e H s hs=>jcN (P:=P) (A:=A) (Nat.le_max_right k k2) N c e H s hs) h2
  have hl : lastD P A (fun N=>runC P A (runF P A (max k k2)) (max k k2) N) f args m H = some (m2.settle,H2):=by
    simp only at hx hdf
    have hno : noDf e2.df = true:=by rw [hdf];rfl
    simp only [lastD,hf,hb,if_neg hcond]
    rw [q1]
    simp only [Option.bind_some]
    rcases hx with rfl | rfl <;> simp [hno,hr,resD]
  have : leaveD P A (fun N=>runC P A (runF P A (max k k2)) (max k k2) N) rs e (.call f args :: l) m H = (lastD P A (fun N=>runC P A (runF P A (max k k2)) (max k k2) N) f args m H).bind fun (m,H)=>leaveD P A (fun N=>runC P A (runF P A (max k k2)) (max k k2) N) rs e l m H:=by cases m <;> rfl
  rw [this,hl]
  exact q2
def pushF (P : Program) (e : Env) : Option (List Dfr) -> Option (List D) -> Option D -> Option Env
  | some l,some args,some (.fn g cs)=>if bodied P g then some ⟨e.f,some (.call g (args ++ cs) :: l)⟩ else none
  | _,_,_=>none
theorem jsI {P : Program} {e : Env} {f : Operand} {args : Array Operand} {ts : Array TypeId} : pushD P e ⟨.value f,args,ts⟩ = pushF P e e.df (evalOs e args.toList) (evalO e f):=by
  unfold pushD
  cases h1 : e.df with
  | none=>rfl
  | some l=>
    simp only [Option.bind_some]
    cases h2 : evalOs e args.toList with
    | none=>rfl
    | some as1=>
      simp only [Option.bind_some]
      cases h3 : evalO e f with
      | none=>rfl
      | some d=>cases d <;> rfl
theorem jtZ {P : Program} {e : Env} {l : List Dfr} {args cs : List D} {g : FuncId} : pushF P e (some l) (some args) (some (.fn g cs)) = if bodied P g then some ⟨e.f,some (.call g (args ++ cs) :: l)⟩ else none:=rfl
attribute [go_sem] jsI jtZ
end
end Vm
end
section
namespace Vm
open Go
section
variable {P : Program} {A : Ann} {N : Nat} {S : List (Option Nat)} {o : Oper} {rest : List Oper} {e : Env} {H : Heap} {K : Env -> Heap -> Prop} {Kp : D -> Env -> Heap -> Prop}
theorem jlO {b : Bool} {dc : Option Call} (h1 : b = true -> stepsB (some true) dc P A N S o rest e H K Kp) (h2 : b = false -> stepsB (some false) dc P A N S o rest e H K Kp) : stepsB (some b) dc P A N S o rest e H K Kp:=by
  cases b
  · exact h2 rfl
  · exact h1 rfl
theorem jkH {b : Bool} {prs : List (List Nat × List Nat)} (h1 : b = true -> stepsXB (some true) P A N S prs o rest e H K) (h2 : b = false -> stepsXB (some false) P A N S prs o rest e H K) : stepsXB (some b) P A N S prs o rest e H K:=by
  cases b
  · exact h2 rfl
  · exact h1 rfl
end
end Vm
namespace Vm
open Go
def vecO (o : Ob) (n : Nat) : Bool:=
  match o with
  | .arr (x :: _) | .fro (x :: _)=>x.cells.length == n
  | _=>false
theorem jq3 {H : Heap} {r n : Nat} : vecSize H r n = vecO (hget H r) n:=by
  unfold vecSize vecO;rfl
theorem jcE {xs : List D} {n : Nat} (h : xs ≠ []) (hs : headSize n xs = true) : vecO (.arr xs) n = true:=by
  cases xs with
  | nil=>exact absurd rfl h
  | cons x l=>exact hs
end Vm
end
section
namespace Vm
open Go
theorem jqY {P : Program} {A : Ann} {N : Nat} {e : Env} {H : Heap} {Q : Ex -> Env -> Heap -> Prop} {b : Code} (I : Nat -> Env -> Heap -> Prop) (m0 : Nat) (h0 : I m0 e H)
    (hstep : ∀ m e H,I m e H -> ∀ R : Env -> Heap -> Prop,(∀ m' e' H',I m' e' H' -> m' < m -> R e' H') -> WpB P A N b e H (SeqQ R Q)) : WpB P A N (.loop b) e H Q:=by
  have hf : ∀ (e : Env) (H : Heap),∃ f : Nat,(∃ m,I m e H) -> (I f e H /\ ∀ m,I m e H -> f <= m):=by
    intro e H
    by_cases h : ∃ m,I m e H
    · obtain ⟨m,hm⟩:=h
      induction m using Nat.strongRecOn with
      | _ m ih=>
        by_cases hl : ∃ m',m' < m /\ I m' e H
        · obtain ⟨m',h1,h2⟩:=hl
          exact ih m' h1 h2
        · exact ⟨m,fun _=>⟨hm,fun m' h'=>Nat.le_of_not_lt fun hlt=>hl ⟨m',hlt,h'⟩⟩⟩
    · exact ⟨0,fun h'=>absurd h' h⟩
  let μ : Env -> Heap -> Nat:=fun e H=>Classical.choose (hf e H)
  have hμ : ∀ e H,(∃ m,I m e H) -> (I (μ e H) e H /\ ∀ m,I m e H -> μ e H <= m):=fun e H=>Classical.choose_spec (hf e H)
  refine jae (fun e H=>∃ m,I m e H) μ ⟨m0,h0⟩ fun e H hI R hR=>?_
  have h1:=hμ e H hI
  refine hstep (μ e H) e H h1.1 R fun m' e' H' h2 h3=>hR e' H' ⟨m',h2⟩ ?_
  exact Nat.lt_of_le_of_lt ((hμ e' H' ⟨m',h2⟩).2 m' h2) h3
def cntF (q : Nat -> Bool) : Nat -> Nat
  | 0=>0
  | k + 1=>cntF q k + if q k then 0 else 1
theorem jmQ {q q' : Nat -> Bool} : ∀ {k : Nat},(∀ s,s < k -> q s = true -> q' s = true) -> cntF q' k <= cntF q k
  | 0,_=>Nat.le_refl _
  | k + 1,h=>by
    have h1:=jmQ (k:=k) fun s hs=>h s (by omega)
    have h2:=h k (by omega)
    simp only [cntF]
    cases hq : q k
    · cases q' k <;> simp <;> omega
    · rw [h2 hq];simp;exact h1
def stripS (l : List D) : Option (List D):=stripL l
def consO (d : Option D) (l : Option (List D)) : Option (List D):=d.bind fun d=>l.map (d :: ·)
theorem joA {d : D} {l : List D} : consO (some d) (some l) = some (d :: l):=rfl
theorem joP : stripS [] = some []:=rfl
theorem jlK {d : D} {l : List D} : stripS (d :: l) = consO (strip d) (stripS l):=by
  unfold stripS consO
  rw [stripL]
def fzM (b : Prop) [Decidable b] (ys : Option (List D)) (H : Heap) : Option R:=fzN b ys H
theorem fzN_S {b : Prop} [Decidable b] {xs : List D} {H : Heap} : fzN b (stripL xs) H = fzM b (stripS xs) H:=rfl
theorem jsM {ys : List D} {H : Heap} : fzM True (some ys) H = some (.ok (.sl false ys) H):=rfl
theorem jwF {n : Nat} {ys : List D} {H : Heap} : fzM (n = n) (some ys) H = some (.ok (.sl false ys) H):=by simp [fzM,fzN]
theorem jnN {k : IntKind} {n : Int} : strip (.int k n) = some (.int k n):=rfl
theorem jly {b : Bool} : strip (.bool b) = some (.bool b):=rfl
theorem jnY {s : List UInt8} : strip (.str s) = some (.str s):=rfl
attribute [go_sem] joA joP jlK fzN_S jsM jwF jnN jly jnY
theorem gs {p : Prop} (h : p:=by simp (maxSteps:=1000000) (dsimp:=false) (disch:=omega) only [go_sem,simprocAttr, *]) : p:=h
section
variable {P : Program} {A : Ann} {N : Nat} {e : Env} {H : Heap} {Q : Ex -> Env -> Heap -> Prop}
theorem wz1 {a b : Code} (h : WpB P A N a e H (SeqQ (fun e H=>WpB P A N b e H Q) Q)) : WpB P A N (.seq a b) e H Q:=jvF h
theorem wz2 {id : Nat} {l : List Oper} (h : vOpsB P A N (l.map (·.dst)) l e H (fun e H=>Q .norm e H) (fun d e H=>Q (.pan d) e H)) : WpB P A N (.region id l.toArray false) e H Q:=jls rfl h
theorem wz3 {id : Nat} {b : Code} (h : WpB P A N b e H (BlkQ id (fun e H=>Q .norm e H) Q)) : WpB P A N (.block id b) e H Q:=jpy h
theorem wz4 (h : Q .norm e H) : WpB P A N .skip e H Q:=jus h
theorem wz5 {id : Nat} (h : Q (.exit id) e H) : WpB P A N (.exit id) e H Q:=jt8 h
theorem wz6 (h : Q .ret e H) : WpB P A N .ret e H Q:=jwp h
theorem wz7 {c : Operand} {x y : Code} {b : Bool} (ht : b = true -> WpB P A N x e H Q) (hf : b = false -> WpB P A N y e H Q) (hc : evalO e c = some (.bool b):=by simp -dsimp (maxSteps:=999999) (disch:=omega) only[go_sem,simprocAttr, *];exact rfl) : WpB P A N (.cond c x y) e H Q:=jak hc ht hf
end
section
variable {P : Program} {A : Ann} {N : Nat} {S : List (Option Nat)} {o : Oper} {rest : List Oper} {e : Env} {H : Heap}
theorem wz8 {K : Env -> Heap -> Prop} {Kp : D -> Env -> Heap -> Prop} {b : Bool} {dc : Option Call} (h1 : b = true -> stepsB (some true) dc P A N S o rest e H K Kp) (h2 : b = false -> stepsB (some false) dc P A N S o rest e H K Kp) : stepsB (some b) dc P A N S o rest e H K Kp:=jlO h1 h2
theorem wz9 {K : Env -> Heap -> Prop} {b : Bool} {prs : List (List Nat × List Nat)} (h1 : b = true -> stepsXB (some true) P A N S prs o rest e H K) (h2 : b = false -> stepsXB (some false) P A N S prs o rest e H K) : stepsXB (some b) P A N S prs o rest e H K:=jkH h1 h2
end
theorem vqs {p q : Prop} (h : p) (e : p = q:=by first | (simp -dsimp (maxSteps:=999999) (disch:=omega) only[go_sem,simprocAttr,decide_eq_true_eq,decide_eq_false_iff_not,Bool.not_eq_true,Bool.not_eq_false,Bool.not_eq_true',Bool.not_eq_false',Int.not_lt,Int.not_le,bne_iff_ne,bne_eq_false_iff_eq,beq_iff_eq,beq_eq_false_iff_ne,ne_eq,Int.ofNat_inj,Int.natCast_inj];done) | (simp -dsimp (maxSteps:=999999) (disch:=omega) only[go_sem,simprocAttr,decide_eq_true_eq,decide_eq_false_iff_not,Bool.not_eq_true,Bool.not_eq_false,Bool.not_eq_true',Bool.not_eq_false',Int.not_lt,Int.not_le,bne_iff_ne,bne_eq_false_iff_eq,beq_iff_eq,beq_eq_false_iff_ne,ne_eq,Int.ofNat_inj,Int.natCast_inj];exact rfl) | exact rfl) : q:=e ▸ h
end Vm
end
section
namespace Vm
open Go
theorem jmd         [Base] {P : Program} {A : Ann} {f : FuncId} {args : List D} {H : Heap} {d : D} (hmo : P.follows .mixedOrders = true) (hA : PrimOk P A) (hb : bodied P f = true) (h : EvF P A f args H (fun d' H' => d' = d ∧ H' = H) (fun _ _ => False))
    {ρ : Rho} {im : Im} {w : World} {vs : List Value} (hR : Rel ρ im H w) (hvs : RepA ρ H.length im vs args) : Calls P f ⟨vs⟩ w (OutR ρ im H w (.ok d H)):=by
  obtain ⟨k,res,h1,h2⟩:=h
  cases res with
  | pan d' H'=>exact h2.elim
  | ok d' H'=>
    obtain ⟨rfl,rfl⟩:=h2
    exact (jdd hmo hA k f args _ _ h1 ρ im w vs hR hvs).calls hb
theorem jeu [Base] {P : Program} {A : Ann} {f : FuncId} {args : List D} {H : Heap} {d : D} (hmo : P.follows .mixedOrders = true) (hA : PrimOk P A) (hb : bodied P f = true) (h : PureF P A f args d) (hst : stripL args = some args)
    {ρ : Rho} {im : Im} {w : World} {vs : List Value} (hR : Rel ρ im H w) (hvs : RepA ρ H.length im vs args) : Calls P f ⟨vs⟩ w (OutR ρ im H w (.ok d H)):=by
  obtain ⟨k,res,h1,h2⟩:=h
  cases res with
  | pan d' H'=>exact h2.elim
  | ok d' H'=>
    have:=OutR.of_pure (jdd hmo hA k) hb hR (Mv.refl hR) hvs hst h1 h2
    rwa [ite_self] at this
mutual
def eqPl : D -> D -> Bool
  | .bool a,.bool b=>a == b
  | .int k a,.int k' b=>decide (k = k') && a == b
  | .str a,.str b=>a == b
  | .nilp,.nilp | .nilm,.nilm | .niln,.niln | .nili,.nili=>true
  | .sl f a,.sl g b=>f == g && eqPlL a b
  | .agg a,.agg b=>eqPlL a b
  | .tup a,.tup b=>eqPlL a b
  | _,_=>false
def eqPlL : List D -> List D -> Bool
  | [],[]=>true
  | x :: r,y :: s=>eqPl x y && eqPlL r s
  | _,_=>false
end
mutual
theorem jmR : ∀ {a b : D},eqPl a b = true -> a = b
  | .bool a,b,h=>by cases b <;> simp_all [eqPl]
  | .int k a,b,h=>by cases b <;> simp_all [eqPl]
  | .str a,b,h=>by cases b <;> simp_all [eqPl]
  | .nilp,b,h=>by cases b <;> simp_all [eqPl]
  | .nilm,b,h=>by cases b <;> simp_all [eqPl]
  | .niln,b,h=>by cases b <;> simp_all [eqPl]
  | .nili,b,h=>by cases b <;> simp_all [eqPl]
  | .sl f a,b,h=>by
    cases b <;> simp only [eqPl] at h <;> first | (cases h;done) | skip
    simp only [Bool.and_eq_true,beq_iff_eq] at h
    rw [h.1,jdr h.2]
  | .agg a,b,h=>by
    cases b <;> simp only [eqPl] at h <;> first | (cases h;done) | skip
    rw [jdr h]
  | .tup a,b,h=>by
    cases b <;> simp only [eqPl] at h <;> first | (cases h;done) | skip
    rw [jdr h]
  | .ptr ..,b,h | .ept ..,b,h | .vec ..,b,h | .map _,b,h | .fn ..,b,h | .bfn ..,b,h | .iface ..,b,h | .yld _,b,h=>by simp [eqPl] at h
theorem jdr : ∀ {a b : List D},eqPlL a b = true -> a = b
  | [],b,h=>by cases b <;> simp_all [eqPlL]
  | x :: r,b,h=>by
    cases b with
    | nil=>simp [eqPlL] at h
    | cons y s=>
      simp only [eqPlL,Bool.and_eq_true] at h
      rw [jmR h.1,jdr h.2]
end
def tells (x : Option R) (d : D) : Bool:=
  match x with
  | some (.ok d' H)=>match outPure H d' with
    | some e=>eqPl e d
    | none=>false
  | _=>false
theorem jnL {P : Program} {A : Ann} {f : FuncId} {k : Nat} {args : List D} {d : D} (h : tells (runF P A k f args []) d = true) : PureF P A f args d:=by
  unfold tells at h
  split at h
  · rename_i d' H hr
    split at h
    · rename_i e ho
      refine ⟨k,_,hr,?_⟩
      show outPure H d' = some d
      rw [ho,jmR h]
    · cases h
  · cases h
end Vm
end
section
namespace Go.Proofs.W
open Go Vm Go.Proofs.Zso
def isD (l : List Int) : D:=.sl false (l.map (.int .i64))
theorem jaM (l : List Int) : stripL (l.map (.int .i64)) = some (l.map (.int .i64)):=by
  induction l with
  | nil=>rfl
  | cons q r ih=>simp [stripL,ih,strip]
theorem jaJ (l : List Int) : strip (isD l) = some (isD l):=by simp [isD,strip,jaM]
theorem ja1 {α : Type} {l : List α} {j : Nat} (h : j < l.length) : l.take (j + 1) = l.take j ++ [l[j]]:=by rw [List.take_add_one,List.getElem?_eq_getElem h];rfl
theorem jba (l : List Int) : headSize 1 (l.map (D.int .i64)) = true:=by cases l <;> rfl
def allN (p : Nat -> Bool) : Nat -> Nat -> Bool
  | _,0=>true
  | j,m + 1=>p j && allN p (j + 1) m
theorem allN_iff {p : Nat -> Bool} : ∀ {m j : Nat},allN p j m = true ↔ ∀ i,j <= i -> i < j + m -> p i = true
  | 0,j=>by simp [allN];intro i h1 h2;omega
  | m + 1,j=>by
    simp only [allN,Bool.and_eq_true,allN_iff (m:=m)]
    constructor
    · rintro ⟨h0,h⟩ i h1 h2
      by_cases e : i = j
      · subst e;exact h0
      · exact h i (by omega) (by omega)
    · intro h
      exact ⟨h j (Nat.le_refl _) (by omega),fun i h1 h2=>h i (by omega) (by omega)⟩
theorem jps {a b c : D} (h : strip a = some a) (k : strip b = some b) (j : strip c = some c) : stripL [a,b,c] = some [a,b,c]:=by simp [stripL,h,k,j]
theorem ex_at {α : Type} {l : List α} {i : Nat} (d : α) (h : i < l.length) : ∃ x,l[i]? = some x /\ l.getD i d = x:=⟨l[i],List.getElem?_eq_getElem h,by simp [List.getD,h]⟩
def Hid (p : Prop) : Prop:=p
theorem jeV {p : Int -> Bool} {l : List Int} {j : Nat} (h : j < l.length) : (l.drop j).all p = (p l[j] && (l.drop (j + 1)).all p):=by
  rw [List.drop_eq_getElem_cons h];rfl
end Go.Proofs.W
end
section
namespace Vm
open Go Go.RowKit
variable [Base]
def PrimAt (P : Program) (f : FuncId) (p : List D -> Heap -> Option R) : Prop:=
  ∀ (args : List D) (H : Heap) (r : R),p args H = some r -> ∀ (ρ : Rho) (im : Im) (w : World) (vs : List Value),Rel ρ im H w -> RepA ρ H.length im vs args -> Calls P f ⟨vs⟩ w (OutR ρ im H w r)
def shortS (s : List UInt8) : Bool:=s.length < 4294967281
def pSplit : List D -> Heap -> Option R
  | [.str s,.str sep],H=>if shortS s = true /\ 1 <= sep.length then some (.ok (.vec H.length 0 (Lib.split s sep).length) (H ++ [.arr ((Lib.split s sep).map .str)])) else none
  | _,_=>none
def pCount : List D -> Heap -> Option R
  | [.str s,.str sep],H=>if shortS s = true /\ 1 <= sep.length then some (.ok (.int .i64 (Lib.count s sep)) H) else none
  | _,_=>none
def pCut : List D -> Heap -> Option R
  | [.str s,.str sep],H=>if shortS s = true then some (.ok (.tup [.str (Lib.cut s sep).1,.str (Lib.cut s sep).2.1,.bool (Lib.cut s sep).2.2]) H) else none
  | _,_=>none
def pCutSuffix : List D -> Heap -> Option R
  | [.str s,.str p],H=>if shortS s = true then some (.ok (.tup [.str (Lib.trimSuffix s p),.bool (Lib.hasSuffix s p)]) H) else none
  | _,_=>none
def pIndexByte : List D -> Heap -> Option R
  | [.str s,.int .u8 c],H=>some (.ok (.int .i64 (Lib.indexByte s c.toNat.toUInt8)) H)
  | _,_=>none
section
variable {P : Program} {ρ : Rho} {im : Im} {H : Heap} {w w' : World} {f : FuncId} {g : Nat}
omit [Base] in
theorem str_inv {v : Value} {s : List UInt8} {n : Nat} (h : Rep ρ n im v (.str s)) : ∃ b : ByteArray,v = .string b /\ b.data.toList = s:=by
  cases h with
  | str b=>exact ⟨b,rfl,rfl⟩
omit [Base] in
theorem int_inv {v : Value} {k : IntKind} {m : Int} {n : Nat} (h : Rep ρ n im v (.int k m)) : v = .int k m:=by
  cases h;rfl
omit [Base] in
theorem jlh (l : List UInt8) {n : Nat} : Rep ρ n im (.string ⟨l.toArray⟩) (.str l):=by
  have:=Rep.str (ρ:=ρ) (n:=n) (im:=im) ⟨l.toArray⟩
  simpa using this
theorem OutR.same (hR : Rel ρ im H w) {v : Value} {d : D} (hv : Rep ρ H.length im v d) : OutR ρ im H w (.ok d H) (.returned v) w:=.ok ρ im H w v d (Mv.refl hR) hv
theorem OutR.drewN (hR : Rel ρ im H w) {v : Value} {d : D} {n : Nat} (hv : Rep ρ H.length im v d) : OutR ρ im H w (.ok d H) (.returned v) (w.drewN n):=
  .ok ρ im H _ v d ⟨hR.world fun _ _=>rfl,ImLe.refl _,Tr.world (fun _ _=>rfl) (Nat.le_refl _) rfl rfl rfl,fun _ _ _ h=>.inl h⟩ hv
omit [Base] in
theorem jcj (s : ByteArray) : s.data.toList.length = s.size:=by rw [Array.length_toList];rfl
theorem jeM (hR : Rel ρ im H w) {v : Value} (h : Base.B g 0 = some v) : w.cell? ⟨g,0,none⟩ = some v:=hR.imc _ _ _ (hR.base _ _ _ h)
theorem jjD (hc : ∀ (s : ByteArray) (c : Int) (w : World),Calls P f #[.string s,.int .u8 c] w fun e w'=>e = .returned (.int .i64 (Lib.indexByte s.data.toList c.toNat.toUInt8)) /\ w' = w) : PrimAt P f pIndexByte:=by
  intro args H r h ρ im w vs hR hvs
  unfold pIndexByte at h
  split at h
  · rename_i s c
    cases h
    obtain ⟨v,u,rfl,h1,h2⟩:=hvs.two
    obtain ⟨b,rfl,rfl⟩:=str_inv h1
    obtain rfl:=int_inv h2
    refine (hc b c w).mono ?_
    rintro e w' ⟨rfl,rfl⟩
    exact OutR.same hR (.int _ _)
  · cases h
theorem jji (hc : ∀ (s p : ByteArray) (w : World),s.size <= 9223372036854775807 -> Calls P f #[.string s,.string p] w fun e w'=>e = .returned (.tuple #[.string ⟨(Lib.trimSuffix s.data.toList p.data.toList).toArray⟩,.bool (Lib.hasSuffix s.data.toList p.data.toList)]) /\ w' = w) : PrimAt P f pCutSuffix:=by
  intro args H r h ρ im w vs hR hvs
  unfold pCutSuffix at h
  split at h
  · rename_i s c
    split at h
    · rename_i hs
      cases h
      obtain ⟨v,u,rfl,h1,h2⟩:=hvs.two
      obtain ⟨b,rfl,rfl⟩:=str_inv h1
      obtain ⟨q,rfl,rfl⟩:=str_inv h2
      have hs' : b.size < 4294967281:=by simpa [shortS,jcj] using hs
      refine (hc b q w (by omega)).mono ?_
      rintro e w' ⟨rfl,rfl⟩
      exact OutR.same hR (.tup _ _ (.cons _ _ _ _ (jlh _) (.cons _ _ _ _ (.bool _) .nil)))
    · cases h
  · cases h
theorem ju7     (hB : ∃ m, Base.B g 0 = some (.int .i64 m)) (hc : ∀ (s sep : ByteArray) (m : Int) (w : World), s.size < 4294967281 → w.cell? ⟨g, 0, none⟩ = some (.int .i64 m) →
    Calls P f #[.string s,.string sep] w fun e w'=>e = .returned (.tuple #[.string ⟨(Lib.cut s.data.toList sep.data.toList).1.toArray⟩,.string ⟨(Lib.cut s.data.toList sep.data.toList).2.1.toArray⟩,.bool (Lib.cut s.data.toList sep.data.toList).2.2]) /\ ∃ n,w' = w.drewN n) : PrimAt P f pCut:=by
  obtain ⟨m,hB⟩:=hB
  intro args H r h ρ im w vs hR hvs
  unfold pCut at h
  split at h
  · rename_i s c
    split at h
    · rename_i hs
      cases h
      obtain ⟨v,u,rfl,h1,h2⟩:=hvs.two
      obtain ⟨b,rfl,rfl⟩:=str_inv h1
      obtain ⟨q,rfl,rfl⟩:=str_inv h2
      have hs' : b.size < 4294967281:=by simpa [shortS,jcj] using hs
      refine (hc b q m w hs' (jeM hR hB)).mono ?_
      rintro e w' ⟨rfl,n,rfl⟩
      exact OutR.drewN hR (.tup _ _ (.cons _ _ _ _ (jlh _) (.cons _ _ _ _ (jlh _) (.cons _ _ _ _ (.bool _) .nil))))
    · cases h
  · cases h
theorem jqT       (hB : ∃ m, Base.B g 0 = some (.int .i64 m)) (hc : ∀ (s sep : ByteArray) (m : Int) (w : World), s.size < 4294967281 → w.cell? ⟨g, 0, none⟩ = some (.int .i64 m) → 1 ≤ sep.size →
    Calls P f #[.string s,.string sep] w fun e w'=>e = .returned (.int .i64 (Lib.countB s sep)) /\ w' = w) : PrimAt P f pCount:=by
  obtain ⟨m,hB⟩:=hB
  intro args H r h ρ im w vs hR hvs
  unfold pCount at h
  split at h
  · rename_i s c
    split at h
    · rename_i hs
      obtain ⟨hs,hq⟩:=hs
      cases h
      obtain ⟨v,u,rfl,h1,h2⟩:=hvs.two
      obtain ⟨b,rfl,rfl⟩:=str_inv h1
      obtain ⟨q,rfl,rfl⟩:=str_inv h2
      have hs' : b.size < 4294967281:=by simpa [shortS,jcj] using hs
      refine (hc b q m w hs' (jeM hR hB) (by simpa [jcj] using hq)).mono ?_
      rintro e w' ⟨rfl,rfl⟩
      exact OutR.same hR (.int _ _)
    · cases h
  · cases h
omit [Base] in
theorem jjR {n : Nat} : ∀ (l : List ByteArray),RepL ρ n im (l.map Value.string) (flatC ((l.map (·.data.toList)).map D.str))
  | []=>.nil
  | b :: l=>by
    simp only [List.map_cons,flatC,List.flatMap_cons,D.cells,List.cons_append,List.nil_append]
    exact .cons _ _ _ _ rfl (.str b) (jjR l)
theorem jqn       {t : TypeId} (hB : ∃ m, Base.B g 0 = some (.int .i64 m)) (hc : ∀ (s sep : ByteArray) (m : Int) (w : World), s.size < 4294967281 → w.cell? ⟨g, 0, none⟩ = some (.int .i64 m) → 1 ≤ sep.size →
    Calls P f #[.string s,.string sep] w fun e w'=>e = .returned (.slice (some ⟨w.heap.size,0,none⟩) (Lib.countB s sep + 1) (Lib.countB s sep + 1)) /\ w' = w.alloc (.cells ((Lib.splitB sep 0 (Lib.countB s sep) s).map Value.string).toArray t)) : PrimAt P f pSplit:=by
  obtain ⟨m,hB⟩:=hB
  intro args H r h ρ im w vs hR hvs
  unfold pSplit at h
  split at h
  · rename_i s c
    split at h
    · rename_i hs
      obtain ⟨hs,hq⟩:=hs
      cases h
      obtain ⟨v,u,rfl,h1,h2⟩:=hvs.two
      obtain ⟨b,rfl,rfl⟩:=str_inv h1
      obtain ⟨q,rfl,rfl⟩:=str_inv h2
      have hs' : b.size < 4294967281:=by simpa [shortS,jcj] using hs
      have hq' : 1 <= q.size:=by simpa [jcj] using hq
      refine (hc b q m w hs' (jeM hR hB) hq').mono ?_
      rintro e w' ⟨rfl,rfl⟩
      have hlen : (Lib.splitB q 0 (Lib.countB b q) b).length = Lib.countB b q + 1:=Lib.splitB_all q hq' 0 _ b rfl
      have hsp : Lib.split b.data.toList q.data.toList = (Lib.splitB q 0 (Lib.countB b q) b).map (·.data.toList):=(Lib.splitB_data q 0 _ b).symm
      generalize hL : Lib.splitB q 0 (Lib.countB b q) b = L at hlen hsp
      rw [hsp]
      have hrel:=hR.alloc (sz:=1) (cap:=Lib.countB b q + 1) (xs:=(L.map (·.data.toList)).map D.str) (c:=(L.map Value.string).toArray) (t:=t) (fz:=(0,0)) (by simp [hlen]) (by simp [D.cells]) (by simp [hlen])
        (by rw [List.take_of_length_le (by simp [hlen])];exact jjR L) (.inr (Nat.le_refl _))
      refine .ok _ im _ _ _ _ ⟨hrel.1,ImLe.refl _,hrel.2,fun _ _ _ h=>.inl h⟩ ?_
      have:=jd0 (n:=(H ++ [Ob.arr ((L.map (·.data.toList)).map D.str)]).length) (im:=im) (ρ:=newR ρ H.length ⟨w.heap.size,1,Lib.countB b q + 1,true⟩) (r:=H.length) (m:=Lib.countB b q + 1) (by simp) (jaD) (Nat.le_refl _)
      simpa [hlen] using this
    · cases h
  · cases h
end
end Vm
end
section
namespace Vm
open Go Go.RowKit Go.Sort
def insZ (x : Int) : List Int -> List Int
  | []=>[x]
  | y :: l=>if x <= y then x :: y :: l else y :: insZ x l
def sortZ (zs : List Int) : List Int:=zs.foldr insZ []
theorem ji9 (x : Int) (l : List Int) : (insZ x l).Perm (x :: l):=by
  induction l with
  | nil=>exact .refl _
  | cons y l ih=>
    unfold insZ
    split
    · exact .refl _
    · exact (ih.cons y).trans (.swap x y l)
theorem jlP (x : Int) (l : List Int) (h : l.Pairwise (· <= ·)) : (insZ x l).Pairwise (· <= ·):=by
  induction l with
  | nil=>simp [insZ]
  | cons y l ih=>
    have h':=List.pairwise_cons.1 h
    unfold insZ
    split
    · rename_i hxy
      refine List.pairwise_cons.2 ⟨fun a ha=>?_,h⟩
      rcases List.mem_cons.1 ha with rfl | ha
      · exact hxy
      · exact Int.le_trans hxy (h'.1 a ha)
    · rename_i hxy
      refine List.pairwise_cons.2 ⟨fun a ha=>?_,ih h'.2⟩
      rcases List.mem_cons.1 ((ji9 x l).subset ha) with rfl | ha
      · omega
      · exact h'.1 a ha
theorem jbW (l : List Int) : (sortZ l).Perm l:=by
  induction l with
  | nil=>exact .refl _
  | cons x l ih=>exact (ji9 x _).trans (ih.cons x)
theorem jdh (l : List Int) : (sortZ l).Pairwise (· <= ·):=by
  induction l with
  | nil=>exact .nil
  | cons x l ih=>exact jlP x _ ih
theorem jeC : ∀ {l l' : List Int},l.Pairwise (· <= ·) -> l'.Pairwise (· <= ·) -> l.Perm l' -> l = l'
  | [],l',_,_,h=>by simpa using h.symm
  | x :: t,[],_,_,h=>by simp at h
  | x :: t,y :: t',h1,h2,h=>by
    have a1:=List.pairwise_cons.1 h1
    have a2:=List.pairwise_cons.1 h2
    have e : x = y:=by
      have m1 : x ∈ y :: t':=h.subset (by simp)
      have m2 : y ∈ x :: t:=h.symm.subset (by simp)
      rcases List.mem_cons.1 m1 with e | m1
      · exact e
      · rcases List.mem_cons.1 m2 with e | m2
        · exact e.symm
        · have:=a2.1 x m1;have:=a1.1 y m2;omega
    subst e
    rw [jeC a1.2 a2.2 (List.Perm.cons_inv h)]
theorem jrT (zs : List Int) : (zs.mergeSort fun x y=>decide (x <= y)) = sortZ zs:=by
  refine jeC ?_ (jdh zs) ((List.mergeSort_perm zs _).trans (jbW zs).symm)
  have:=List.pairwise_mergeSort (le:=fun x y : Int=>decide (x <= y)) (fun a b c h1 h2=>by simp at *;omega) (fun a b=>by simp;omega) zs
  simpa using this
variable [Base]
def intsD : List D -> Option (List Int)
  | []=>some []
  | .int .i64 n :: r=>(intsD r).map (n :: ·)
  | _=>none
omit [Base] in
theorem jgr : ∀ {xs : List D} {zs : List Int},intsD xs = some zs -> xs = zs.map (.int .i64)
  | [],zs,h=>by cases h;rfl
  | x :: r,zs,h=>by
    unfold intsD at h
    split at h
    · rename_i heq;cases heq
    · rename_i heq
      cases heq
      cases hr : intsD r with
      | none=>rw [hr] at h;cases h
      | some l=>rw [hr] at h;cases h;rw [jgr hr];rfl
    · cases h
omit [Base] in
theorem jik (zs : List Int) : intsD (zs.map (.int .i64)) = some zs:=by
  induction zs with
  | nil=>rfl
  | cons z r ih=>simp [intsD,ih]
def pSort : List D -> Heap -> Option R
  | [.vec r 0 n],H=>match hget H r with
    | .arr xs=>(intsD xs).bind fun zs=>if n = zs.length /\ zs.length < 4611686018427387904 /\ 0 < zs.length then some (.ok (.tup []) (H.set r (.arr ((sortZ zs).map (.int .i64))))) else none
    | _=>none
  | [.sl _ []],H=>some (.ok (.tup []) H)
  | _,_=>none
section
variable {P : Program} {ρ : Rho} {im : Im} {H : Heap} {w w' : World} {f : FuncId}
omit [Base] in
theorem ji0 {n : Nat} : ∀ {vs : List Value} {zs : List Int},RepL ρ n im vs (zs.map (.int .i64)) -> vs = zs.map (.int .i64)
  | _,[],h=>by cases h;rfl
  | _,z :: r,h=>by
    cases h with
    | cons v d vs ds h1 h2 h3=>
      cases h2
      rw [ji0 h3];rfl
omit [Base] in
theorem jkG {n : Nat} (zs : List Int) : RepL ρ n im (zs.map (.int .i64)) (zs.map (.int .i64)):=by
  induction zs with
  | nil=>exact .nil
  | cons z r ih=>exact .cons _ _ _ _ rfl (.int _ _) ih
omit [Base] in
theorem jg8 (zs : List Int) : flatC (zs.map (D.int .i64)) = zs.map (.int .i64):=by
  induction zs with
  | nil=>rfl
  | cons z r ih=>simp only [List.map_cons,flatC,List.flatMap_cons] at *;rw [ih];rfl
theorem jjG (hR : Rel ρ im H w) {r : Nat} (hr2 : r < H.length) {zs : List Int} (hx : hget H r = .arr (zs.map (.int .i64))) (hpos : 0 < zs.length) :
    (ρ r).sz = 1 /\ zs.length <= (ρ r).cap /\ Holds (Value.int .i64) w (ρ r).b 0 zs.toArray /\ (ρ r).b < w.heap.size /\
      ∀ (ts : List Int) (m : Nat),ts.length = zs.length -> Mv ρ im H w ρ im (H.set r (.arr (ts.map (.int .i64)))) (putRow (Value.int .i64) (Sort.ahead w m) (ρ r).b 0 ts.toArray):=by
  have hob:=hR.obj r hr2
  rw [hx] at hob
  obtain ⟨c,ty,fz,h1,h2,h3,h4,h5,h6⟩:=hob
  have hsz : (ρ r).sz = 1:=by
    cases zs with
    | nil=>simp at hpos
    | cons z zr=>exact (h3 (.int .i64 z) (by simp)).symm
  rw [hsz,Nat.mul_one,List.length_map,jg8] at h5
  have h5':=ji0 h5
  rw [hsz,Nat.mul_one] at h2
  rw [List.length_map] at h4
  have hH : Holds (Value.int .i64) w (ρ r).b 0 zs.toArray:=by
    intro j hj
    have hj' : j < zs.length:=by simpa using hj
    have hjc : j < c.size:=by omega
    have e1 : c.toList[j]? = some (.int .i64 zs[j]):=by
      have : (c.toList.take zs.length)[j]? = (zs.map (Value.int .i64))[j]?:=by rw [h5']
      rw [List.getElem?_take_of_lt hj'] at this
      rw [this];simp [hj']
    refine ⟨?_,?_⟩
    · simp only [World.cell?,h1,Nat.zero_add]
      simp only [Option.isSome_none,Bool.false_eq_true,if_false]
      rw [<- Array.getElem?_toList,e1]
      simp [hj']
    · simp only [World.frozen?,h1]
      simp only [Bool.and_eq_false_iff,decide_eq_false_iff_not]
      omega
  have hblk : (ρ r).b < w.heap.size:=(Array.getElem?_eq_some_iff.1 h1).1
  refine ⟨hsz,h4,hH,hblk,fun ts m hs=>?_⟩
  have hl : live (hget H r):=by rw [hx];trivial
  have hrow : (putRow (Value.int .i64) (Sort.ahead w m) (ρ r).b 0 ts.toArray).heap[(ρ r).b]? = some (.cells (putCells (Value.int .i64) 0 ts.toArray c) ty fz):=by
    simp [putRow,mapBlock,Sort.ahead,Array.getElem?_modify,h1,onCells]
  have hoth : ∀ b,b ≠ (ρ r).b -> (putRow (Value.int .i64) (Sort.ahead w m) (ρ r).b 0 ts.toArray).heap[b]? = w.heap[b]?:=by
    intro b hb
    have : (ρ r).b ≠ b:=fun e=>hb e.symm
    simp [putRow,mapBlock,Sort.ahead,Array.getElem?_modify,this]
  have htake : (putCells (Value.int .i64) 0 ts.toArray c).toList.take ts.length = ts.map (Value.int .i64):=by
    apply List.ext_getElem?
    intro j
    by_cases hj : j < ts.length
    · rw [List.getElem?_take_of_lt hj,Array.getElem?_toList]
      simp [putCells,hj,show j < c.size by omega]
    · rw [List.getElem?_take_eq_none (by omega),List.getElem?_eq_none (by simp;omega)]
  have hok : ObOk ρ H.length im (putRow (Value.int .i64) (Sort.ahead w m) (ρ r).b 0 ts.toArray) (ρ r) (.arr (ts.map (.int .i64))):=by
    refine ⟨_,ty,fz,hrow,by simp [putCells,h2,hsz],?_,by simp [hs];exact h4,?_,by simpa [putCells] using h6⟩
    · intro x hx'
      obtain ⟨z,-,rfl⟩:=List.mem_map.1 hx'
      rw [hsz];rfl
    · rw [hsz,Nat.mul_one,List.length_map,jg8,htake]
      exact jkG _
  exact ⟨hR.setOb hr2 hl hoth hok,ImLe.refl _,Tr.setOb hr2 hl hoth (by simp [putRow,mapBlock,Sort.ahead]) rfl rfl rfl,fun _ _ _ h=>.inl h⟩
theorem jsl (hc : ∀ (blk cap : Nat) (zs : List Int) (w : World),Holds (Value.int .i64) w blk 0 zs.toArray -> blk < w.heap.size -> zs.length < 4611686018427387904 ->
      Calls P f #[.slice (some ⟨blk,0,none⟩) zs.length cap] w fun e w'=>e = .returned (.tuple #[]) /\ ∃ n os,w' = grow (putRow (Value.int .i64) (Sort.ahead w n) blk 0 (zs.mergeSort fun x y=>decide (x <= y)).toArray) os)
    (hc0 : ∀ (p : Option Addr) (cap : Nat) (w : World),Calls P f #[.slice p 0 cap] w fun e w'=>e = .returned (.tuple #[]) /\ w' = w) : PrimAt P f pSort:=by
  intro args H r h ρ im w vs hR hvs
  unfold pSort at h
  split at h
  · rename_i r n
    split at h
    · rename_i xs hx
      cases hz : intsD xs with
      | none=>rw [hz] at h;cases h
      | some zs=>
        rw [hz] at h
        simp only [Option.bind_some] at h
        split at h
        · rename_i hn
          obtain ⟨rfl,hlen,hpos⟩:=hn
          cases h
          have hxs:=jgr hz
          subst hxs
          cases hvs with
          | cons v d vs ds hv hr=>
            cases hr
            cases hv with
            | vec _ _ _ hr2 hcap=>
              obtain ⟨hsz,hcap2,hH,hblk,hmv⟩:=jjG hR hr2.lt hx hpos
              rw [Nat.zero_mul]
              refine (hc (ρ r).b _ zs w hH hblk hlen).mono ?_
              rintro e w' ⟨rfl,m,os,hw⟩
              rw [jrT] at hw
              subst hw
              have m1:=hmv (sortZ zs) m (jbW zs).length_eq
              have hgrow : ∀ b,b < (putRow (Value.int .i64) (Sort.ahead w m) (ρ r).b 0 (sortZ zs).toArray).heap.size -> (grow (putRow (Value.int .i64) (Sort.ahead w m) (ρ r).b 0 (sortZ zs).toArray) os).heap[b]? = (putRow (Value.int .i64) (Sort.ahead w m) (ρ r).b 0 (sortZ zs).toArray).heap[b]?:=
                fun b hb=>heap_grow_old _ _ hb
              have m2:=m1.trans ⟨m1.rel.world hgrow,ImLe.refl _,Tr.world hgrow (by simp [grow]) rfl rfl rfl,fun _ _ _ h=>.inl h⟩
              exact .ok ρ im _ _ _ _ m2 (.tup [] [] .nil)
        · cases h
    · cases h
  · rename_i f2
    cases h
    cases hvs with
    | cons v d vs ds hv hr=>
      cases hr
      cases hv with
      | sl0 a cap f hf=>
        refine (hc0 a cap w).mono ?_
        rintro e w' ⟨rfl,rfl⟩
        exact OutR.same hR (.tup [] [] .nil)
      | sl b o sz cap f xs vs hs hc' h hf hcap=>
        refine (hc0 _ cap w).mono ?_
        rintro e w' ⟨rfl,rfl⟩
        exact OutR.same hR (.tup [] [] .nil)
  · cases h
def compactZ (zs : List Int) : List Int:=Lib.compact zs ++ List.replicate (zs.length - (Lib.compact zs).length) 0
def pCompact : List D -> Heap -> Option R
  | [.vec r 0 n],H=>match hget H r with
    | .arr xs=>(intsD xs).bind fun zs=>if n = zs.length /\ zs.length < 4611686018427387904 /\ 0 < zs.length /\ (Lib.compact zs).length <= zs.length then some (.ok (.vec r 0 (Lib.compact zs).length) (H.set r (.arr ((compactZ zs).map (.int .i64))))) else none
    | _=>none
  | [.sl f []],H=>some (.ok (.sl f []) H)
  | _,_=>none
theorem jlW (hc : ∀ (blk cap : Nat) (zs : List Int) (w : World),Holds (Value.int .i64) w blk 0 zs.toArray -> zs.length <= 9223372036854775807 -> zs.length <= cap ->
      Calls P f #[.slice (some ⟨blk,0,none⟩) zs.length cap] w fun e w'=>e = .returned (.slice (some ⟨blk,0,none⟩) (Lib.compact zs).length cap) /\ ∃ q,w' = putRow (Value.int .i64) (Sort.ahead w q) blk 0 (Lib.compact zs ++ List.replicate (zs.length - (Lib.compact zs).length) 0).toArray)
    (hc0 : ∀ (p : Option Addr) (cap : Nat) (w : World),Calls P f #[.slice p 0 cap] w fun e w'=>e = .returned (.slice p 0 cap) /\ w' = w) : PrimAt P f pCompact:=by
  intro args H r h ρ im w vs hR hvs
  unfold pCompact at h
  split at h
  · rename_i r n
    split at h
    · rename_i xs hx
      cases hz : intsD xs with
      | none=>rw [hz] at h;cases h
      | some zs=>
        rw [hz] at h
        simp only [Option.bind_some] at h
        split at h
        · rename_i hn
          obtain ⟨rfl,hlen,hpos,hle⟩:=hn
          cases h
          have hxs:=jgr hz
          subst hxs
          cases hvs with
          | cons v d vs ds hv hr=>
            cases hr
            cases hv with
            | vec _ _ _ hr2 hcap=>
              obtain ⟨hsz,hcap2,hH,hblk,hmv⟩:=jjG hR hr2.lt hx hpos
              rw [Nat.zero_mul]
              refine (hc (ρ r).b _ zs w hH (by omega) (by omega)).mono ?_
              rintro e w' ⟨rfl,q,rfl⟩
              have m1:=hmv (compactZ zs) q (by simp [compactZ];omega)
              have hrep:=Rep.vec (ρ:=ρ) (n:=(H.set r (.arr ((compactZ zs).map (D.int .i64)))).length) (im:=im) r 0 (Lib.compact zs).length (by simpa using hr2) (by omega)
              rw [Nat.zero_mul] at hrep
              exact .ok ρ im _ _ _ _ m1 hrep
        · cases h
    · cases h
  · rename_i f2
    cases h
    cases hvs with
    | cons v d vs ds hv hr=>
      cases hr
      cases hv with
      | sl0 a cap f hf=>
        refine (hc0 a cap w).mono ?_
        rintro e w' ⟨rfl,rfl⟩
        exact OutR.same hR (.sl0 _ _ _ hf)
      | sl b o sz cap f xs vs hs hc' h hf hcap=>
        refine (hc0 _ cap w).mono ?_
        rintro e w' ⟨rfl,rfl⟩
        exact OutR.same hR (.sl0 _ _ _ (fun h=>by simpa using hf h))
  · cases h
end
end Vm
end
section
-- use:
namespace Go.Proofs.W
open Go Vm Go.Proofs.Zso
def states : List Nat:=[59,77,78,79,97,98,112,123,124,58,47,23,109,85,86,87,107,108,66,9,20,33,14,15,32,50,22,27,49,64,62,63,81,82,38,46,61,83,99,100,101,102,104,105]
def ruleL (rs : List D) : List D -> Int -> Option Int
  | [],out=>some out
  | .int .i64 s :: xs,out=>if 0 <= s then (match rs[s.toNat]? with
    | some (.int .i64 r)=>ruleL rs xs (if r ≥ 0 /\ (out < 0 ∨ r < out) then r else out)
    | _=>none) else none
  | _,_=>none
def ruleG : List D -> List Ob -> Option D
  | [.ptr _ 0 0,.sl _ xs],[.arr [.agg [_,_,_,.sl _ rs,_,_,_,_]]]=>if xs.length <= 1000000 then (ruleL rs xs (-1)).map (.int .i64) else none
  | _,_=>none
def A : Ann:={ mode:=fun f=>if states.contains f then .state else if f = 8 then .fresh else .pure,prim:=fun f=>
  if f = 25 then some pSplit else if f = 24 then some pCount else if f = 43 then some pCut else if f = 44 then some pCutSuffix else if f = 143 then some pIndexByte else if f = 110 then some pSort else if f = 111 then some pCompact else none,fz:=fun t=>t == 23,rd:=fun f=>if f = 88 then some ruleG else none,bl:=fun f=>if f = 38 then some (.add .i64) else if f = 46 then some (.load .i64) else if f = 61 then some (.load .u32) else if f = 83 then some .store else if f = 99 then some .mark0 else if f = 100 then some (.cas .i32) else if f = 101 then some .mark0 else if f = 102 then some .mark1 else if f = 104 then some .mark1 else if f = 105 then some (.add .i32) else none }
theorem A_fz (t : TypeId) : A.fz t = (t == 23):=rfl
attribute [go_sem] A_fz
def okTrue : Option R -> Bool
  | some (.ok (.bool b) _)=>b
  | _=>false
end Go.Proofs.W
end
section
namespace Go.Proofs.W
open Go Vm Go.Proofs.Zso
end Go.Proofs.W
end
section
namespace Go.Proofs.W
open Go Vm Go.Proofs.Zso
end Go.Proofs.W
end
section
namespace Go.Proofs.W
open Go Vm Go.Proofs.Zso
def A1 : Ann:={ mode:=fun _=>.pure,prim:=fun _=>none }
theorem prim1 [Base] : PrimOk Tryz.prog A1:=⟨fun f k h=>(by cases h),fun f g h=>(by cases h),fun f p h=>(by cases h)⟩
theorem joh {rs xs : List D} {x : D} {out r : Int} (h : ruleL rs (x :: xs) out = some r) : ∃ s q : Int,x = .int .i64 s /\ 0 <= s /\ rs[s.toNat]? = some (.int .i64 q) /\ ruleL rs xs (if q ≥ 0 /\ (out < 0 ∨ q < out) then q else out) = some r:=by
  unfold ruleL at h
  split at h
  · rename_i e1;cases e1
  · rename_i e1
    cases e1
    split at h
    · split at h
      · rename_i q hq
        exact ⟨_,q,rfl,by assumption,hq,h⟩
      · cases h
    · cases h
  · cases h
theorem jvE (r : Nat) (f g : Bool) (xs rs : List D) (c0 c1 c2 c4 c5 c6 c7 : D) (H : Heap) (hg : hget H r = .arr [.agg [c0,c1,c2,.sl g rs,c4,c5,c6,c7]]) (x : Int) (hx : ruleL rs xs (-1) = some x) (hl : xs.length <= 1000000) :
    EvF Tryz.prog A1 88 [.ptr r 0 0,.sl f xs] H (fun d H'=>d = .int .i64 x /\ H' = H) (fun _ _=>False):=by
  refine jaj (n:=37) (rs:=[.tmp 4]) Tryz.func88 rfl rfl rfl rfl rfl rfl ?_
  replace hx : Hid (ruleL rs (xs.drop 0) (-1) = some x):=hx
  repeat' (first | apply wz1|apply wz2|apply wz3|apply wz4|apply wz5|apply wz6 | simp -dsimp (maxSteps:=999999) (disch:=omega) only[go_sem,simprocAttr, *] | ((first | refine wz8 ?_ ?_|refine wz9 ?_ ?_|refine wz7 ?_ ?_)<;>intro hh <;> (try replace hh:=vqs hh) <;> (try (exfalso;first | exact hh | omega))))
  refine jae (fun e Hx=>∃ (j : Nat) (o : Int),j <= xs.length /\ Hx = H /\ e 0 = .ptr r 0 0 /\ e 5 = .int .i64 o /\ e 9 = .sl f xs /\ e 10 = .int .i64 xs.length /\ e 11 = .int .i64 j /\ ruleL rs (xs.drop j) o = some x) (fun e H=>xs.length - natOf (e 11)) ?_ ?_
  · exact ⟨0,-1,by omega,rfl,gs,gs,gs,gs,gs,hx⟩
  clear hx
  rintro e Hx ⟨j,o,hj,rfl,e0,e5,e9,e10,e11,hx⟩ R hR
  by_cases hb : j < xs.length
  case neg=>
    rw [List.drop_eq_nil_of_le (by omega)] at hx
    have : o = x:=by simpa [ruleL] using hx
    subst this
    clear hx
    repeat' (first | apply wz1|apply wz2|apply wz3|apply wz4|apply wz5|apply wz6 | simp -dsimp (maxSteps:=999999) (disch:=omega) only[go_sem,simprocAttr, *] | ((first | refine wz8 ?_ ?_|refine wz9 ?_ ?_|refine wz7 ?_ ?_)<;>intro hh <;> (try replace hh:=vqs hh) <;> (try (exfalso;first | exact hh | omega))))
  have hd : xs.drop j = xs[j] :: xs.drop (j + 1):=List.drop_eq_getElem_cons hb
  rw [hd] at hx
  obtain ⟨s,q,hs,hs0,hq,hx⟩:=joh hx
  have hcell : xs[j]? = some (.int .i64 s):=by rw [List.getElem?_eq_getElem hb,hs]
  have hsl : s < rs.length:=by
    have:=(List.getElem?_eq_some_iff.1 hq).1
    omega
  clear hd hs
  replace hx : Hid (ruleL rs (xs.drop (j + 1)) (if q ≥ 0 /\ (o < 0 ∨ q < o) then q else o) = some x):=hx
  repeat' (first | apply wz1|apply wz2|apply wz3|apply wz4|apply wz5|apply wz6 | simp -dsimp (maxSteps:=999999) (disch:=omega) only[go_sem,simprocAttr, *] | ((first | refine wz8 ?_ ?_|refine wz9 ?_ ?_|refine wz7 ?_ ?_)<;>intro hh <;> (try replace hh:=vqs hh) <;> (try (exfalso;first | exact hh | omega))))
  all_goals first
    | (refine hR _ _ ⟨j + 1, q, by omega, rfl, gs, gs, gs, gs, gs, ?_⟩ ?_
       · have h:=hx;unfold Hid at h
         rwa [if_pos (by omega)] at h
       · simp -dsimp (maxSteps:=999999) (disch:=omega) only[go_sem,simprocAttr, *,jab])
    | (refine hR _ _ ⟨j + 1, o, by omega, rfl, gs, gs, gs, gs, gs, ?_⟩ ?_
       · have h:=hx;unfold Hid at h
         rwa [if_neg (by omega)] at h
       · simp -dsimp (maxSteps:=999999) (disch:=omega) only[go_sem,simprocAttr, *,jab])
theorem jpE {args : List D} {obs : List Ob} {d : D} (h : ruleG args obs = some d) : ∃ r f g xs rs c0 c1 c2 c4 c5 c6 c7 x,args = [.ptr r 0 0,.sl f xs] /\ obs = [.arr [.agg [c0,c1,c2,.sl g rs,c4,c5,c6,c7]]] /\ ruleL rs xs (-1) = some x /\ d = .int .i64 x /\ xs.length <= 1000000:=by
  unfold ruleG at h
  split at h
  · split at h
    case isFalse=>cases h
    rename_i hl
    cases hx : ruleL _ _ (-1) with
    | none=>rw [hx] at h;cases h
    | some x=>
      rw [hx] at h
      cases h
      exact ⟨_,_,_,_,_,_,_,_,_,_,_,_,x,rfl,rfl,hx,rfl,hl⟩
  · cases h
theorem mixed : Tryz.prog.follows .mixedOrders = true:=by kernel_rfl
theorem jnS [Base] {args : List D} {H : Heap} {d : D} (h : ruleG args ((args.flatMap objsD).map (hget H)) = some d) {ρ : Rho} {im : Im} {w : World} {vs : List Value} (hR : Rel ρ im H w) (hvs : RepA ρ H.length im vs args) : Calls Tryz.prog 88 ⟨vs⟩ w (OutR ρ im H w (.ok d H)):=by
  obtain ⟨r,f,g,xs,rs,c0,c1,c2,c4,c5,c6,c7,x,rfl,hob,hx,rfl,hl⟩:=jpE h
  have hg : hget H r = .arr [.agg [c0,c1,c2,.sl g rs,c4,c5,c6,c7]]:=by simpa [objsD] using hob
  exact jmd mixed prim1 bo88 (jvE r f g xs rs c0 c1 c2 c4 c5 c6 c7 H hg x hx hl) hR hvs
end Go.Proofs.W
end
section
namespace Go.Proofs
open Go.Shelf
def Tryz.lays146_ren : Go.Shelf.Ren:=⟨fun | 146=>25 | 221=>42 | 268=>55 | 138=>24 | 143=>41 | 195=>39 | 197=>75 | 218=>40 | 219=>54 | 260=>96 | 217=>71 | 225=>72 | 224=>73 | 267=>74 | 266=>94 | 314=>95 | n=>n,fun | 9=>9 | 31=>80 | 3=>3 | 4=>4 | 0=>0 | 105=>143 | 21=>21 | 5=>5 | 46=>98 | 119=>181 | 139=>184 | 138=>183 | 146=>162 | 51=>56 | n=>n,fun | 1=>0 | 3=>1 | 4=>2 | n=>n⟩
theorem Tryz.lays146 : Go.Proofs.Lays.n146 Tryz.prog Tryz.lays146_ren:={
  mixed:=by kernel_rfl
  f138:=Tryz.func24.trans (congrArg some (by kernel_rfl))
  f143:=Tryz.func41.trans (congrArg some (by kernel_rfl))
  f146:=Tryz.func25.trans (congrArg some (by kernel_rfl))
  f195:=Tryz.func39.trans (congrArg some (by kernel_rfl))
  f197:=Tryz.func75.trans (congrArg some (by kernel_rfl))
  f217:=Tryz.func71.trans (congrArg some (by kernel_rfl))
  f218:=Tryz.func40.trans (congrArg some (by kernel_rfl))
  f219:=Tryz.func54.trans (congrArg some (by kernel_rfl))
  f221:=Tryz.func42.trans (congrArg some (by kernel_rfl))
  f224:=Tryz.func73.trans (congrArg some (by kernel_rfl))
  f225:=Tryz.func72.trans (congrArg some (by kernel_rfl))
  f260:=Tryz.func96.trans (congrArg some (by kernel_rfl))
  f266:=Tryz.func94.trans (congrArg some (by kernel_rfl))
  f267:=Tryz.func74.trans (congrArg some (by kernel_rfl))
  f268:=Tryz.func55.trans (congrArg some (by kernel_rfl))
  f314:=Tryz.func95.trans (congrArg some (by kernel_rfl))
  t0:=Tryz.underlying0
  a0:=Tryz.isAgg0
  z0:=Tryz.sizeOf0
  v0:=Tryz.zeroValue0
  t3:=Tryz.underlying3
  a3:=Tryz.isAgg3
  z3:=Tryz.sizeOf3
  v3:=Tryz.zeroValue3
  t4:=Tryz.underlying4
  a4:=Tryz.isAgg4
  z4:=Tryz.sizeOf4
  v4:=Tryz.zeroValue4
  t5:=Tryz.underlying5
  a5:=Tryz.isAgg5
  z5:=Tryz.sizeOf5
  v5:=Tryz.zeroValue5
  t9:=Tryz.underlying9
  a9:=Tryz.isAgg9
  z9:=Tryz.sizeOf9
  v9:=Tryz.zeroValue9
  t21:=Tryz.underlying21
  a21:=Tryz.isAgg21
  z21:=Tryz.sizeOf21
  v21:=Tryz.zeroValue21
  t31:=Tryz.underlying80
  a31:=Tryz.isAgg80
  z31:=Tryz.sizeOf80
  v31:=Tryz.zeroValue80
  t46:=Tryz.underlying98
  a46:=Tryz.isAgg98
  z46:=Tryz.sizeOf98
  v46:=Tryz.zeroValue98
  t51:=Tryz.underlying56
  a51:=Tryz.isAgg56
  z51:=Tryz.sizeOf56
  v51:=Tryz.zeroValue56
  t105:=Tryz.underlying143
  a105:=Tryz.isAgg143
  z105:=Tryz.sizeOf143
  v105:=Tryz.zeroValue143
  t119:=Tryz.underlying181
  a119:=Tryz.isAgg181
  z119:=Tryz.sizeOf181
  t138:=Tryz.underlying183
  a138:=Tryz.isAgg183
  z138:=Tryz.sizeOf183
  v138:=Tryz.zeroValue183
  t139:=Tryz.underlying184
  a139:=Tryz.isAgg184
  z139:=Tryz.sizeOf184
  v139:=Tryz.zeroValue184
  t146:=Tryz.underlying162
  a146:=Tryz.isAgg162
  z146:=Tryz.sizeOf162
  v146:=Tryz.zeroValue162
  g1:=by kernel_rfl
  g3:=by kernel_rfl
  g4:=by kernel_rfl }
open Go.RowKit Go.Lib in
theorem Tryz.strings_Split (s sep : ByteArray) (m : Int) (w : World) (hs : s.size < 4294967281) (hm : w.cell? ⟨0, 0, none⟩ = some (.int .i64 m)) (h1 : 1 ≤ sep.size) :
    Calls Tryz.prog 25 #[.string s,.string sep] w fun e w'=>
      e = .returned (.slice (some ⟨w.heap.size,0,none⟩) (Lib.countB s sep + 1) (Lib.countB s sep + 1)) /\ w' = w.alloc (.cells ((Lib.splitB sep 0 (Lib.countB s sep) s).map Value.string).toArray 9):=Any.strings_Split Tryz.lays146 (by kernel_rfl) s sep m w hs hm h1
def Tryz.lays138_ren : Go.Shelf.Ren:=⟨fun | 138=>24 | 195=>39 | 218=>40 | 143=>41 | 219=>54 | 217=>71 | 225=>72 | 224=>73 | 267=>74 | 266=>94 | 314=>95 | n=>n,fun | 9=>9 | 3=>3 | 4=>4 | 5=>5 | 0=>0 | 46=>98 | 146=>162 | 51=>56 | n=>n,fun | 1=>0 | n=>n⟩
theorem Tryz.lays138 : Go.Proofs.Lays.n138 Tryz.prog Tryz.lays138_ren:={
  mixed:=by kernel_rfl
  f138:=Tryz.func24.trans (congrArg some (by kernel_rfl))
  f143:=Tryz.func41.trans (congrArg some (by kernel_rfl))
  f195:=Tryz.func39.trans (congrArg some (by kernel_rfl))
  f217:=Tryz.func71.trans (congrArg some (by kernel_rfl))
  f218:=Tryz.func40.trans (congrArg some (by kernel_rfl))
  f219:=Tryz.func54.trans (congrArg some (by kernel_rfl))
  f224:=Tryz.func73.trans (congrArg some (by kernel_rfl))
  f225:=Tryz.func72.trans (congrArg some (by kernel_rfl))
  f266:=Tryz.func94.trans (congrArg some (by kernel_rfl))
  f267:=Tryz.func74.trans (congrArg some (by kernel_rfl))
  f314:=Tryz.func95.trans (congrArg some (by kernel_rfl))
  t0:=Tryz.underlying0
  a0:=Tryz.isAgg0
  z0:=Tryz.sizeOf0
  v0:=Tryz.zeroValue0
  t3:=Tryz.underlying3
  a3:=Tryz.isAgg3
  z3:=Tryz.sizeOf3
  v3:=Tryz.zeroValue3
  t4:=Tryz.underlying4
  a4:=Tryz.isAgg4
  z4:=Tryz.sizeOf4
  v4:=Tryz.zeroValue4
  t5:=Tryz.underlying5
  a5:=Tryz.isAgg5
  z5:=Tryz.sizeOf5
  v5:=Tryz.zeroValue5
  t9:=Tryz.underlying9
  a9:=Tryz.isAgg9
  z9:=Tryz.sizeOf9
  v9:=Tryz.zeroValue9
  t46:=Tryz.underlying98
  a46:=Tryz.isAgg98
  z46:=Tryz.sizeOf98
  v46:=Tryz.zeroValue98
  t51:=Tryz.underlying56
  a51:=Tryz.isAgg56
  z51:=Tryz.sizeOf56
  v51:=Tryz.zeroValue56
  t146:=Tryz.underlying162
  a146:=Tryz.isAgg162
  z146:=Tryz.sizeOf162
  v146:=Tryz.zeroValue162
  g1:=by kernel_rfl }
open Go.RowKit Go.Lib in
theorem Tryz.strings_Count_any (s sep : ByteArray) (m : Int) (w : World) (hs : s.size < 4294967281) (hm : w.cell? ⟨0, 0, none⟩ = some (.int .i64 m)) (h1 : 1 ≤ sep.size) :
    Calls Tryz.prog 24 #[.string s,.string sep] w fun e w'=>e = .returned (.int .i64 (Lib.countB s sep)) /\ w' = w:=Any.strings_Count_any Tryz.lays138 s sep m w hs hm h1
def Tryz.lays145_ren : Go.Shelf.Ren:=⟨fun | 145=>43 | 220=>56 | 219=>54 | 217=>71 | 225=>72 | 224=>73 | 267=>74 | 266=>94 | 314=>95 | n=>n,fun | 9=>9 | 4=>4 | 59=>102 | 3=>3 | 5=>5 | 46=>98 | 146=>162 | 51=>56 | n=>n,fun | 1=>0 | n=>n⟩
theorem Tryz.lays145 : Go.Proofs.Lays.n145 Tryz.prog Tryz.lays145_ren:={
  mixed:=by kernel_rfl
  f145:=Tryz.func43.trans (congrArg some (by kernel_rfl))
  f217:=Tryz.func71.trans (congrArg some (by kernel_rfl))
  f219:=Tryz.func54.trans (congrArg some (by kernel_rfl))
  f220:=Tryz.func56.trans (congrArg some (by kernel_rfl))
  f224:=Tryz.func73.trans (congrArg some (by kernel_rfl))
  f225:=Tryz.func72.trans (congrArg some (by kernel_rfl))
  f266:=Tryz.func94.trans (congrArg some (by kernel_rfl))
  f267:=Tryz.func74.trans (congrArg some (by kernel_rfl))
  f314:=Tryz.func95.trans (congrArg some (by kernel_rfl))
  t3:=Tryz.underlying3
  a3:=Tryz.isAgg3
  z3:=Tryz.sizeOf3
  v3:=Tryz.zeroValue3
  t4:=Tryz.underlying4
  a4:=Tryz.isAgg4
  z4:=Tryz.sizeOf4
  v4:=Tryz.zeroValue4
  t5:=Tryz.underlying5
  a5:=Tryz.isAgg5
  z5:=Tryz.sizeOf5
  v5:=Tryz.zeroValue5
  t9:=Tryz.underlying9
  a9:=Tryz.isAgg9
  z9:=Tryz.sizeOf9
  v9:=Tryz.zeroValue9
  t46:=Tryz.underlying98
  a46:=Tryz.isAgg98
  z46:=Tryz.sizeOf98
  v46:=Tryz.zeroValue98
  t51:=Tryz.underlying56
  a51:=Tryz.isAgg56
  z51:=Tryz.sizeOf56
  v51:=Tryz.zeroValue56
  t59:=Tryz.underlying102
  a59:=Tryz.isAgg102
  z59:=Tryz.sizeOf102
  v59:=Tryz.zeroValue102
  t146:=Tryz.underlying162
  a146:=Tryz.isAgg162
  z146:=Tryz.sizeOf162
  v146:=Tryz.zeroValue162
  g1:=by kernel_rfl }
open Go.RowKit Go.Lib in
theorem Tryz.strings_Cut (s sep : ByteArray) (m : Int) (w : World) (hs : s.size < 4294967281) (hm : w.cell? ⟨0, 0, none⟩ = some (.int .i64 m)) :
    Calls Tryz.prog 43 #[.string s,.string sep] w fun e w'=>e = .returned (.tuple #[.string ⟨(Lib.cut s.data.toList sep.data.toList).1.toArray⟩,.string ⟨(Lib.cut s.data.toList sep.data.toList).2.1.toArray⟩,.bool (Lib.cut s.data.toList sep.data.toList).2.2]) /\ ∃ n,w' = w.drewN n:=Any.strings_Cut Tryz.lays145 s sep m w hs hm
def Tryz.lays104_ren : Go.Shelf.Ren:=⟨fun | 104=>44 | 211=>57 | 207=>76 | n=>n,fun | 9=>9 | 4=>4 | 24=>104 | 3=>3 | n=>n,fun | n=>n⟩
theorem Tryz.lays104 : Go.Proofs.Lays.n104 Tryz.prog Tryz.lays104_ren:={
  mixed:=by kernel_rfl
  f104:=Tryz.func44.trans (congrArg some (by kernel_rfl))
  f207:=Tryz.func76.trans (congrArg some (by kernel_rfl))
  f211:=Tryz.func57.trans (congrArg some (by kernel_rfl))
  t3:=Tryz.underlying3
  a3:=Tryz.isAgg3
  z3:=Tryz.sizeOf3
  v3:=Tryz.zeroValue3
  t4:=Tryz.underlying4
  a4:=Tryz.isAgg4
  z4:=Tryz.sizeOf4
  v4:=Tryz.zeroValue4
  t9:=Tryz.underlying9
  a9:=Tryz.isAgg9
  z9:=Tryz.sizeOf9
  v9:=Tryz.zeroValue9
  t24:=Tryz.underlying104
  a24:=Tryz.isAgg104
  z24:=Tryz.sizeOf104
  v24:=Tryz.zeroValue104 }
open Go.RowKit in
theorem Tryz.strings_CutSuffix (s p : ByteArray) (w : World) (hs : s.size <= 9223372036854775807) :
    Calls Tryz.prog 44 #[.string s,.string p] w fun e w'=>e = .returned (.tuple #[.string ⟨(Lib.trimSuffix s.data.toList p.data.toList).toArray⟩,.bool (Lib.hasSuffix s.data.toList p.data.toList)]) /\ w' = w:=Any.strings_CutSuffix Tryz.lays104 s p w hs
def Tryz.lays137_ren : Go.Shelf.Ren:=⟨fun | 137=>143 | 217=>71 | 266=>94 | n=>n,fun | 9=>9 | 5=>5 | 3=>3 | n=>n,fun | n=>n⟩
theorem Tryz.lays137 : Go.Proofs.Lays.n137 Tryz.prog Tryz.lays137_ren:={
  mixed:=by kernel_rfl
  f137:=Tryz.func143.trans (congrArg some (by kernel_rfl))
  f217:=Tryz.func71.trans (congrArg some (by kernel_rfl))
  f266:=Tryz.func94.trans (congrArg some (by kernel_rfl))
  t3:=Tryz.underlying3
  a3:=Tryz.isAgg3
  z3:=Tryz.sizeOf3
  v3:=Tryz.zeroValue3
  t5:=Tryz.underlying5
  a5:=Tryz.isAgg5
  z5:=Tryz.sizeOf5
  v5:=Tryz.zeroValue5
  t9:=Tryz.underlying9
  a9:=Tryz.isAgg9
  z9:=Tryz.sizeOf9
  v9:=Tryz.zeroValue9 }
open Go.RowKit in
theorem Tryz.strings_IndexByte (s : ByteArray) (c : Int) (w : World) :
    Calls Tryz.prog 143 #[.string s,.int .u8 c] w fun e w'=>e = .returned (.int .i64 (Lib.indexByte s.data.toList c.toNat.toUInt8)) /\ w' = w:=Any.strings_IndexByte Tryz.lays137 s c w
def Tryz.lays189_ren : Go.Shelf.Ren:=⟨fun | 189=>110 | 125=>122 | 257=>121 | 128=>134 | 129=>135 | 294=>125 | 295=>126 | 296=>127 | 297=>128 | 298=>129 | 299=>130 | 216=>131 | 300=>132 | 301=>133 | 328=>137 | 329=>138 | 330=>139 | 331=>140 | 332=>141 | 215=>142 | 343=>144 | n=>n,fun | 28=>23 | 3=>3 | 46=>98 | 0=>0 | 51=>56 | 53=>201 | 4=>4 | 183=>193 | 182=>192 | 131=>141 | 5=>5 | 9=>9 | 218=>203 | 222=>110 | 228=>208 | 229=>93 | n=>n,fun | n=>n⟩
theorem Tryz.lays189 : Go.Proofs.Lays.n189 Tryz.prog Tryz.lays189_ren:={
  mixed:=by kernel_rfl
  f125:=Tryz.func122.trans (congrArg some (by kernel_rfl))
  f128:=Tryz.func134.trans (congrArg some (by kernel_rfl))
  f129:=Tryz.func135.trans (congrArg some (by kernel_rfl))
  f189:=Tryz.func110.trans (congrArg some (by kernel_rfl))
  f215:=Tryz.func142.trans (congrArg some (by kernel_rfl))
  f216:=Tryz.func131.trans (congrArg some (by kernel_rfl))
  f257:=Tryz.func121.trans (congrArg some (by kernel_rfl))
  f294:=Tryz.func125.trans (congrArg some (by kernel_rfl))
  f295:=Tryz.func126.trans (congrArg some (by kernel_rfl))
  f296:=Tryz.func127.trans (congrArg some (by kernel_rfl))
  f297:=Tryz.func128.trans (congrArg some (by kernel_rfl))
  f298:=Tryz.func129.trans (congrArg some (by kernel_rfl))
  f299:=Tryz.func130.trans (congrArg some (by kernel_rfl))
  f300:=Tryz.func132.trans (congrArg some (by kernel_rfl))
  f301:=Tryz.func133.trans (congrArg some (by kernel_rfl))
  f328:=Tryz.func137.trans (congrArg some (by kernel_rfl))
  f329:=Tryz.func138.trans (congrArg some (by kernel_rfl))
  f330:=Tryz.func139.trans (congrArg some (by kernel_rfl))
  f331:=Tryz.func140.trans (congrArg some (by kernel_rfl))
  f332:=Tryz.func141.trans (congrArg some (by kernel_rfl))
  f343:=Tryz.func144.trans (congrArg some (by kernel_rfl))
  t0:=Tryz.underlying0
  a0:=Tryz.isAgg0
  z0:=Tryz.sizeOf0
  v0:=Tryz.zeroValue0
  t3:=Tryz.underlying3
  a3:=Tryz.isAgg3
  z3:=Tryz.sizeOf3
  v3:=Tryz.zeroValue3
  t4:=Tryz.underlying4
  a4:=Tryz.isAgg4
  z4:=Tryz.sizeOf4
  v4:=Tryz.zeroValue4
  t5:=Tryz.underlying5
  a5:=Tryz.isAgg5
  z5:=Tryz.sizeOf5
  v5:=Tryz.zeroValue5
  t9:=Tryz.underlying9
  a9:=Tryz.isAgg9
  z9:=Tryz.sizeOf9
  v9:=Tryz.zeroValue9
  t28:=Tryz.underlying23
  a28:=Tryz.isAgg23
  z28:=Tryz.sizeOf23
  v28:=Tryz.zeroValue23
  t46:=Tryz.underlying98
  a46:=Tryz.isAgg98
  z46:=Tryz.sizeOf98
  v46:=Tryz.zeroValue98
  t51:=Tryz.underlying56
  a51:=Tryz.isAgg56
  z51:=Tryz.sizeOf56
  v51:=Tryz.zeroValue56
  t53:=Tryz.underlying201
  a53:=Tryz.isAgg201
  z53:=Tryz.sizeOf201
  v53:=Tryz.zeroValue201
  t131:=Tryz.underlying141
  a131:=Tryz.isAgg141
  z131:=Tryz.sizeOf141
  v131:=Tryz.zeroValue141
  t182:=Tryz.underlying192
  a182:=Tryz.isAgg192
  z182:=Tryz.sizeOf192
  v182:=Tryz.zeroValue192
  t183:=Tryz.underlying193
  a183:=Tryz.isAgg193
  z183:=Tryz.sizeOf193
  v183:=Tryz.zeroValue193
  t218:=Tryz.underlying203
  a218:=Tryz.isAgg203
  z218:=Tryz.sizeOf203
  v218:=Tryz.zeroValue203
  t222:=Tryz.underlying110
  a222:=Tryz.isAgg110
  z222:=Tryz.sizeOf110
  v222:=Tryz.zeroValue110
  t228:=Tryz.underlying208
  a228:=Tryz.isAgg208
  z228:=Tryz.sizeOf208
  v228:=Tryz.zeroValue208
  t229:=Tryz.underlying93
  a229:=Tryz.isAgg93
  z229:=Tryz.sizeOf93
  v229:=Tryz.zeroValue93 }
open Go.Sort Go.RowKit in
theorem Tryz.slices_Sort_int (blk off cap : Nat) (zs : List Int) (w : World) (hH : Holds (Value.int .i64) w blk off zs.toArray) (hblk : blk < w.heap.size) (hsz : zs.length < 4611686018427387904) :
    Calls Tryz.prog 110 #[.slice (some ⟨blk,off,none⟩) zs.length cap] w fun e w'=>
      e = .returned (.tuple #[]) /\ ∃ n os,w' = grow (putRow (Value.int .i64) (Sort.ahead w n) blk off (zs.mergeSort fun x y=>decide (x <= y)).toArray) os:=Any.slices_Sort_int Tryz.lays189 blk off cap zs w hH hblk hsz
open Go.RowKit Go.Sort in
theorem Tryz.slices_Sort_int_none (p : Option Addr) (cap : Nat) (w : World) :
    Calls Tryz.prog 110 #[.slice p 0 cap] w fun e w'=>e = .returned (.tuple #[]) /\ w' = w:=Any.slices_Sort_int_none Tryz.lays189 p cap w
def Tryz.laysNm220_ren : Go.Shelf.Ren:=⟨fun | 20=>111 | n=>n,fun | 22=>23 | 3=>3 | 4=>4 | 0=>0 | n=>n,fun | n=>n⟩
theorem Tryz.laysNm220 : Go.Proofs.Lays2.n20 Tryz.prog Tryz.laysNm220_ren:={
  mixed:=by kernel_rfl
  f20:=Tryz.func111.trans (congrArg some (by kernel_rfl))
  t0:=Tryz.underlying0
  a0:=Tryz.isAgg0
  z0:=Tryz.sizeOf0
  v0:=Tryz.zeroValue0
  t3:=Tryz.underlying3
  a3:=Tryz.isAgg3
  z3:=Tryz.sizeOf3
  v3:=Tryz.zeroValue3
  t4:=Tryz.underlying4
  a4:=Tryz.isAgg4
  z4:=Tryz.sizeOf4
  v4:=Tryz.zeroValue4
  t22:=Tryz.underlying23
  a22:=Tryz.isAgg23
  z22:=Tryz.sizeOf23
  v22:=Tryz.zeroValue23
  i3:=by kernel_rfl }
open Go.RowKit Go.Lib Go.Sort in
theorem Tryz.slices_Compact_int (blk off cap : Nat) (zs : List Int) (w : World) (hH : Holds (Value.int .i64) w blk off zs.toArray) (hsz : zs.length <= 9223372036854775807) (hcap : zs.length <= cap) :
    Calls Tryz.prog 111 #[.slice (some ⟨blk,off,none⟩) zs.length cap] w fun e w'=>e = .returned (.slice (some ⟨blk,off,none⟩) (Lib.compact zs).length cap) /\ ∃ q,w' = putRow (Value.int .i64) (Sort.ahead w q) blk off (Lib.compact zs ++ List.replicate (zs.length - (Lib.compact zs).length) 0).toArray:=Any.slices_Compact_int Tryz.laysNm220 blk off cap zs w hH hsz hcap
open Go.RowKit Go.Lib Go.Sort in
theorem Tryz.slices_Compact_int_empty (a : Option Addr) (cap : Nat) (w : World) :
    Calls Tryz.prog 111 #[.slice a 0 cap] w fun e w'=>e = .returned (.slice a 0 cap) /\ w' = w:=Any.slices_Compact_int_empty Tryz.laysNm220 a cap w
end Go.Proofs
end
section
namespace Go.Proofs.W
open Go Vm Go.Proofs.Zso
theorem extA [Base] : ∀ (f : FuncId) (k : ExtK),A.bl f = some k -> ∃ fn,ExtFn Tryz.prog f k fn:=by
  intro f k h
  simp only [A] at h
  split at h
  · rename_i e;subst e;cases h
    exact ⟨Tryz.f38,Tryz.func38,by kernel_rfl,by kernel_rfl,by kernel_rfl,(show Extern.find Tryz.f38 = some (Extern.Atomic.update (Op.intArith .add) .i64 true) by kernel_rfl)⟩
  split at h
  · rename_i e;subst e;cases h
    exact ⟨Tryz.f46,Tryz.func46,by kernel_rfl,by kernel_rfl,by kernel_rfl,(show Extern.find Tryz.f46 = some (Extern.Atomic.loadT (.int .i64)) by kernel_rfl)⟩
  split at h
  · rename_i e;subst e;cases h
    exact ⟨Tryz.f61,Tryz.func61,by kernel_rfl,by kernel_rfl,by kernel_rfl,(show Extern.find Tryz.f61 = some (Extern.Atomic.loadT (.int .u32)) by kernel_rfl)⟩
  split at h
  · rename_i e;subst e;cases h
    exact ⟨Tryz.f83,Tryz.func83,by kernel_rfl,by kernel_rfl,by kernel_rfl,(show Extern.find Tryz.f83 = some (Extern.Atomic.storeT) by kernel_rfl)⟩
  split at h
  · rename_i e;subst e;cases h
    exact ⟨Tryz.f99,Tryz.func99,by kernel_rfl,by kernel_rfl,by kernel_rfl,⟨.disable,by kernel_rfl⟩⟩
  split at h
  · rename_i e;subst e;cases h
    exact ⟨Tryz.f100,Tryz.func100,by kernel_rfl,by kernel_rfl,by kernel_rfl,(show Extern.find Tryz.f100 = some (Extern.Atomic.casT (.int .i32)) by kernel_rfl)⟩
  split at h
  · rename_i e;subst e;cases h
    exact ⟨Tryz.f101,Tryz.func101,by kernel_rfl,by kernel_rfl,by kernel_rfl,⟨.enable,by kernel_rfl⟩⟩
  split at h
  · rename_i e;subst e;cases h
    exact ⟨Tryz.f102,Tryz.func102,by kernel_rfl,by kernel_rfl,by kernel_rfl,⟨.acquire,by kernel_rfl⟩⟩
  split at h
  · rename_i e;subst e;cases h
    exact ⟨Tryz.f104,Tryz.func104,by kernel_rfl,by kernel_rfl,by kernel_rfl,⟨.releaseMerge,by kernel_rfl⟩⟩
  split at h
  · rename_i e;subst e;cases h
    exact ⟨Tryz.f105,Tryz.func105,by kernel_rfl,by kernel_rfl,by kernel_rfl,(show Extern.find Tryz.f105 = some (Extern.Atomic.update (Op.intArith .add) .i32 true) by kernel_rfl)⟩
  · cases h
theorem primA [Base] (hB : ∃ m,Base.B 0 0 = some (.int .i64 m)) : PrimOk Tryz.prog A:=by
  refine ⟨extA,fun f g h args H d hd ρ im w vs hR hvs=>?_,?_⟩
  · simp only [A] at h
    split at h
    · rename_i e;subst e;cases h
      exact jnS hd hR hvs
    · cases h
  intro f p h args H r hr ρ im w vs hR hvs
  simp only [A] at h
  split at h
  · rename_i e;subst e;cases h
    exact jqn (g:=0) hB (fun s sep m w h1 h2 h3=>Tryz.strings_Split s sep m w h1 h2 h3) args H r hr ρ im w vs hR hvs
  split at h
  · rename_i e;subst e;cases h
    exact jqT (g:=0) hB (fun s sep m w h1 h2 h3=>Tryz.strings_Count_any s sep m w h1 h2 h3) args H r hr ρ im w vs hR hvs
  split at h
  · rename_i e;subst e;cases h
    exact ju7 (g:=0) hB (fun s sep m w h1 h2=>Tryz.strings_Cut s sep m w h1 h2) args H r hr ρ im w vs hR hvs
  split at h
  · rename_i e;subst e;cases h
    exact jji (fun s p w h1=>Tryz.strings_CutSuffix s p w h1) args H r hr ρ im w vs hR hvs
  split at h
  · rename_i e;subst e;cases h
    exact jjD (fun s c w=>Tryz.strings_IndexByte s c w) args H r hr ρ im w vs hR hvs
  split at h
  · rename_i e;subst e;cases h
    exact jsl (fun blk cap zs w h1 h2 h3=>Tryz.slices_Sort_int blk 0 cap zs w h1 h2 h3) (fun p cap w=>Tryz.slices_Sort_int_none p cap w) args H r hr ρ im w vs hR hvs
  split at h
  · rename_i e;subst e;cases h
    exact jlW (fun blk cap zs w h1 h2 h3=>Tryz.slices_Compact_int blk 0 cap zs w h1 h2 h3) (fun p cap w=>Tryz.slices_Compact_int_empty p cap w) args H r hr ρ im w vs hR hvs
  · cases h
end Go.Proofs.W
end
section
namespace Go.Proofs.W
open Go Vm Go.Proofs.Zso
inductive Rx where
  | mk (k s : Int) (kids : List Rx)
  deriving Inhabited
def Rx.k : Rx -> Int | .mk k _ _=>k
def Rx.s : Rx -> Int | .mk _ s _=>s
def Rx.kids : Rx -> List Rx | .mk _ _ l=>l
mutual
def rxD : Rx -> D
  | .mk k s l=>.agg [.int .u8 k,.int .u16 s,.sl false (rxDs l)]
def rxDs : List Rx -> List D
  | []=>[]
  | r :: l=>rxD r :: rxDs l
end
theorem jcI (l : List Rx) : rxDs l = l.map rxD:=by
  induction l with
  | nil=>rfl
  | cons r l ih=>simp [rxDs,ih]
mutual
theorem jaW : ∀ r : Rx,strip (rxD r) = some (rxD r)
  | .mk k s l=>by simp [rxD,strip,stripL,jcR l]
theorem jcR : ∀ l : List Rx,stripL (rxDs l) = some (rxDs l)
  | []=>rfl
  | r :: l=>by simp [rxDs,stripL,jaW r,jcR l]
end
theorem jbf (r : Rx) : (rxD r).cells.length = 3:=by cases r;rfl
theorem jb4 (r : Rx) : aggQ (rxD r) = true:=by cases r;rfl
theorem jbw (r : Rx) : noTup (rxD r) = true:=by cases r;rfl
theorem juv (l : List Rx) : (rxDs l).length = l.length:=by rw [jcI];simp
theorem jhW (l : List Rx) (i : Nat) : (rxDs l)[i]? = (l[i]?).map rxD:=by rw [jcI];simp
theorem rx_mk (k s : Int) (l : List Rx) : rxD (.mk k s l) = .agg [.int .u8 k,.int .u16 s,.sl false (rxDs l)]:=rfl
attribute [go_sem] jbf jb4 jbw juv jhW rx_mk
theorem jir {k : IntKind} {n : Int} : strip (.int k n) = some (.int k n):=rfl
mutual
def okR : Rx -> Prop
  | .mk k s l=>0 <= k /\ k < 256 /\ 0 <= s /\ s < 65536 /\ l.length <= 140737488355328 /\ okL l
def okL : List Rx -> Prop
  | []=>True
  | r :: l=>okR r /\ okL l
end
theorem jbq : ∀ {l : List Rx},okL l -> ∀ r ∈ l,okR r
  | [],_,r,h=>by cases h
  | x :: l,⟨h1,h2⟩,r,h=>by
    rcases List.mem_cons.1 h with rfl | h
    · exact h1
    · exact jbq h2 r h
def greatR : Nat -> Rx -> Bool
  | m,.mk _ _ l=>decide (l.length > 120) || (match m with | 0=>true | m + 1=>l.any fun r=>greatR m r)
theorem jtP : ∀ (m : Nat) (hm : m <= 1000) (r : Rx),PureF Tryz.prog A 16 [rxD r,.int .i64 m] (.bool (greatR m r)):=by
  intro m
  induction m with
  | zero=>
    rintro hm ⟨k,s,l⟩
    refine jaj (n:=29) (rs:=[.tmp 4]) Tryz.func16 rfl rfl rfl rfl rfl rfl ?_
    by_cases hl : l.length <= 120
    · repeat' (first | apply wz1|apply wz2|apply wz3|apply wz4|apply wz5|apply wz6 | simp -dsimp (maxSteps:=999999) (disch:=omega) only[go_sem,simprocAttr, *])
      refine wz7 (fun hb=>?_) (fun hb=>?_) <;> try simp -dsimp (maxSteps:=999999) (disch:=omega) only[go_sem,simprocAttr,decide_eq_true_eq,decide_eq_false_iff_not,Bool.not_eq_true,Bool.not_eq_false,Int.not_lt,Int.not_le] at hb
      repeat' (first | apply wz1|apply wz2|apply wz3|apply wz4|apply wz5|apply wz6 | simp -dsimp (maxSteps:=999999) (disch:=omega) only[go_sem,simprocAttr, *])
      simp [greatR]
    · repeat' (first | apply wz1|apply wz2|apply wz3|apply wz4|apply wz5|apply wz6 | simp -dsimp (maxSteps:=999999) (disch:=omega) only[go_sem,simprocAttr, *])
      refine wz7 (fun hb=>?_) (fun hb=>?_) <;> try simp -dsimp (maxSteps:=999999) (disch:=omega) only[go_sem,simprocAttr,decide_eq_true_eq,decide_eq_false_iff_not,Bool.not_eq_true,Bool.not_eq_false,Int.not_lt,Int.not_le] at hb
      repeat' (first | apply wz1|apply wz2|apply wz3|apply wz4|apply wz5|apply wz6 | simp -dsimp (maxSteps:=999999) (disch:=omega) only[go_sem,simprocAttr, *])
      simp [greatR]
  | succ m ih=>
    rintro hm ⟨k,s,l⟩
    refine jaj (n:=29) (rs:=[.tmp 4]) Tryz.func16 rfl rfl rfl rfl rfl rfl ?_
    by_cases hl : l.length <= 120
    · repeat' (first | apply wz1|apply wz2|apply wz3|apply wz4|apply wz5|apply wz6 | simp -dsimp (maxSteps:=999999) (disch:=omega) only[go_sem,simprocAttr, *])
      refine wz7 (fun hb=>?_) (fun hb=>?_) <;> try simp -dsimp (maxSteps:=999999) (disch:=omega) only[go_sem,simprocAttr,decide_eq_true_eq,decide_eq_false_iff_not,Bool.not_eq_true,Bool.not_eq_false,Int.not_lt,Int.not_le] at hb
      repeat' (first | apply wz1|apply wz2|apply wz3|apply wz4|apply wz5|apply wz6 | simp -dsimp (maxSteps:=999999) (disch:=omega) only[go_sem,simprocAttr, *])
      have hgr : greatR (m + 1) (.mk k s l) = l.any fun r=>greatR m r:=by simp only [greatR,show ¬ l.length > 120 by omega,decide_false,Bool.false_or]
      rw [hgr]
      refine jae (fun e H=>∃ j : Nat,j <= l.length /\ e 1 = .int .i64 ((m : Int) + 1) /\ e 2 = .ptr 0 0 0 /\ e 5 = .int .i64 j /\ hget H 0 = .arr [rxD (.mk k s l)] /\ (l.any fun r=>greatR m r) = ((l.drop j).any fun r=>greatR m r)) (fun e H=>l.length - natOf (e 5)) ?_ ?_
      · exact ⟨0,Nat.zero_le _,gs,rfl,rfl,rfl,by simp⟩
      · clear hgr hb
        rintro e H ⟨j,hj,e1,e2,e5,h0,ha⟩ R hR
        repeat' (first | apply wz1|apply wz2|apply wz3|apply wz4|apply wz5|apply wz6 | simp -dsimp (maxSteps:=999999) (disch:=omega) only[go_sem,simprocAttr, *])
        refine wz7 (fun hb=>?_) (fun hb=>?_) <;> try simp -dsimp (maxSteps:=999999) (disch:=omega) only[go_sem,simprocAttr,decide_eq_true_eq,decide_eq_false_iff_not,Bool.not_eq_true,Bool.not_eq_false,Int.not_lt,Int.not_le] at hb
        · rw [List.drop_eq_getElem_cons hb,List.any_cons] at ha
          repeat' (first | apply wz1|apply wz2|apply wz3|apply wz4|apply wz5|apply wz6 | simp -dsimp (maxSteps:=999999) (disch:=omega) only[go_sem,simprocAttr, *])
          refine jal bo16 rfl rfl (jb7 (jaW _) jir) (by simpa using ih (by omega) l[j]) ?_
          simp -dsimp (maxSteps:=999999) (disch:=omega) only[go_sem,simprocAttr, *]
          refine wz7 (fun hb2=>?_) (fun hb2=>?_) <;> try simp -dsimp (maxSteps:=999999) (disch:=omega) only[go_sem,simprocAttr,decide_eq_true_eq,decide_eq_false_iff_not,Bool.not_eq_true,Bool.not_eq_false,Int.not_lt,Int.not_le] at hb2
          · repeat' (first | apply wz1|apply wz2|apply wz3|apply wz4|apply wz5|apply wz6 | simp -dsimp (maxSteps:=999999) (disch:=omega) only[go_sem,simprocAttr, *])
          · repeat' (first | apply wz1|apply wz2|apply wz3|apply wz4|apply wz5|apply wz6 | simp -dsimp (maxSteps:=999999) (disch:=omega) only[go_sem,simprocAttr, *])
            refine hR _ _ ⟨j + 1,by omega,e1,e2,rfl,gs,by simpa [hb2] using ha⟩ ?_
            simp -dsimp (maxSteps:=999999) (disch:=omega) only[go_sem,simprocAttr, *,jab]
        · repeat' (first | apply wz1|apply wz2|apply wz3|apply wz4|apply wz5|apply wz6 | simp -dsimp (maxSteps:=999999) (disch:=omega) only[go_sem,simprocAttr, *])
          rw [List.drop_eq_nil_of_le (by omega)];rfl
    · repeat' (first | apply wz1|apply wz2|apply wz3|apply wz4|apply wz5|apply wz6 | simp -dsimp (maxSteps:=999999) (disch:=omega) only[go_sem,simprocAttr, *])
      refine wz7 (fun hb=>?_) (fun hb=>?_) <;> try simp -dsimp (maxSteps:=999999) (disch:=omega) only[go_sem,simprocAttr,decide_eq_true_eq,decide_eq_false_iff_not,Bool.not_eq_true,Bool.not_eq_false,Int.not_lt,Int.not_le] at hb
      repeat' (first | apply wz1|apply wz2|apply wz3|apply wz4|apply wz5|apply wz6 | simp -dsimp (maxSteps:=999999) (disch:=omega) only[go_sem,simprocAttr, *])
      simp [greatR];omega
end Go.Proofs.W
end
section
namespace Go.Proofs.W
open Go Vm Go.Proofs.Zso
mutual
def depth : Rx -> Nat
  | .mk _ _ l=>depthL l + 1
def depthL : List Rx -> Nat
  | []=>0
  | r :: l=>max (depth r) (depthL l)
end
mutual
def nodesR : Rx -> Nat
  | .mk _ _ l=>nodesL 1 l
def nodesL : Nat -> List Rx -> Nat
  | n,[]=>n
  | n,r :: l=>if n < 101 then nodesL (n + nodesR r) l else n
end
theorem jme {n : Nat} (h : 101 <= n) : ∀ l : List Rx,nodesL n l = n
  | []=>rfl
  | r :: l=>by simp only [nodesL];rw [if_neg (by omega)]
mutual
theorem jgL : ∀ r : Rx,nodesR r <= 100 * depth r + 1
  | .mk _ _ l=>by
    have:=ji7 l 1 (by omega)
    simp only [nodesR,depth];omega
theorem ji7 : ∀ (l : List Rx) (n : Nat),n <= 100 * depthL l + 101 -> nodesL n l <= 100 * depthL l + 101
  | [],n,h=>by simpa [nodesL] using h
  | r :: l,n,h=>by
    simp only [nodesL,depthL] at h ⊢
    have h1:=jgL r
    split
    · rcases Nat.lt_or_ge (n + nodesR r) 101 with h2 | h2
      · have:=ji7 l (n + nodesR r) (by omega)
        omega
      · rw [jme h2];omega
    · omega
end
theorem jeE {k s : Int} {l : List Rx} {r : Rx} (h : r ∈ l) : depth r < depth (.mk k s l):=by
  have : ∀ l : List Rx,r ∈ l -> depth r <= depthL l:=by
    intro l
    induction l with
    | nil=>intro h;cases h
    | cons x l ih=>
      intro h
      simp only [depthL]
      rcases List.mem_cons.1 h with rfl | h
      · omega
      · have:=ih h;omega
  have:=this l h
  simp only [depth];omega
theorem jua : ∀ (d : Nat) (r : Rx) (hr : okR r) (hd : depth r <= d) (hd2 : d <= 1000),PureF Tryz.prog A 18 [rxD r] (.int .i64 (nodesR r)):=by
  intro d
  induction d with
  | zero=>rintro ⟨k,s,l⟩ _ h;simp [depth] at h
  | succ d ih=>
    rintro ⟨k,s,l⟩ hr hd hd2
    have hle:=jgL (.mk k s l)
    have hkid : ∀ x ∈ l,depth x <= d:=fun x hx=>by have:=jeE (k:=k) (s:=s) hx;omega
    obtain ⟨_,_,_,_,hlen,hok⟩:=hr
    refine jaj (n:=25) (rs:=[.tmp 2]) Tryz.func18 rfl rfl rfl rfl rfl rfl ?_
    repeat' (first | apply wz1|apply wz2|apply wz3|apply wz4|apply wz5|apply wz6 | simp -dsimp (maxSteps:=999999) (disch:=omega) only[go_sem,simprocAttr, *])
    refine jae (fun e H=>∃ j : Nat,j <= l.length /\ e 1 = .ptr 0 0 0 /\ e 4 = .int .i64 j /\ hget H 0 = .arr [rxD (.mk k s l)] /\ ∃ n : Nat,e 3 = .int .i64 n /\ n <= 200000 /\ nodesR (.mk k s l) = nodesL n (l.drop j)) (fun e H=>l.length - natOf (e 4)) ?_ ?_
    · exact ⟨0,Nat.zero_le _,gs,rfl,rfl,1,rfl,by omega,by simp [nodesR]⟩
    · rintro e H ⟨j,hj,e1,e4,h0,n,e3,hn,ha⟩ R hR
      by_cases hb2 : j < l.length
      · rw [List.drop_eq_getElem_cons hb2] at ha
        simp only [nodesL] at ha
        have hn2:=jgL l[j]
        have hk:=hkid l[j] (List.getElem_mem _)
        by_cases h101 : n < 101
        · rw [if_pos h101] at ha
          repeat' (first | apply wz1|apply wz2|apply wz3|apply wz4|apply wz5|apply wz6 | simp -dsimp (maxSteps:=999999) (disch:=omega) only[go_sem,simprocAttr, *])
          refine wz7 (fun hb3=>?_) (fun hb3=>?_) <;> try simp -dsimp (maxSteps:=999999) (disch:=omega) only[go_sem,simprocAttr,decide_eq_true_eq,decide_eq_false_iff_not,Bool.not_eq_true,Bool.not_eq_false,Int.not_lt,Int.not_le] at hb3
          repeat' (first | apply wz1|apply wz2|apply wz3|apply wz4|apply wz5|apply wz6 | simp -dsimp (maxSteps:=999999) (disch:=omega) only[go_sem,simprocAttr, *])
          refine jal bo18 rfl rfl (jaH (jaW _)) (ih l[j] (jbq hok _ (List.getElem_mem _)) hk (by omega)) ?_
          simp -dsimp (maxSteps:=999999) (disch:=omega) only[go_sem,simprocAttr, *]
          repeat' (first | apply wz1|apply wz2|apply wz3|apply wz4|apply wz5|apply wz6 | simp -dsimp (maxSteps:=999999) (disch:=omega) only[go_sem,simprocAttr, *])
          refine hR _ _ ⟨j + 1,by omega,e1,gs,gs,n + nodesR l[j],gs,by omega,ha⟩ ?_
          simp -dsimp (maxSteps:=999999) (disch:=omega) only[go_sem,simprocAttr, *,jab]
        · rw [if_neg h101] at ha
          repeat' (first | apply wz1|apply wz2|apply wz3|apply wz4|apply wz5|apply wz6 | simp -dsimp (maxSteps:=999999) (disch:=omega) only[go_sem,simprocAttr, *])
          refine wz7 (fun hb3=>?_) (fun hb3=>?_) <;> try simp -dsimp (maxSteps:=999999) (disch:=omega) only[go_sem,simprocAttr,decide_eq_true_eq,decide_eq_false_iff_not,Bool.not_eq_true,Bool.not_eq_false,Int.not_lt,Int.not_le] at hb3
          repeat' (first | apply wz1|apply wz2|apply wz3|apply wz4|apply wz5|apply wz6 | simp -dsimp (maxSteps:=999999) (disch:=omega) only[go_sem,simprocAttr, *])
          try rw [ha]
      · rw [List.drop_eq_nil_of_le (by omega)] at ha
        simp only [nodesL] at ha
        repeat' (first | apply wz1|apply wz2|apply wz3|apply wz4|apply wz5|apply wz6 | simp -dsimp (maxSteps:=999999) (disch:=omega) only[go_sem,simprocAttr, *])
        refine wz7 (fun hb3=>?_) (fun hb3=>?_) <;> try simp -dsimp (maxSteps:=999999) (disch:=omega) only[go_sem,simprocAttr,decide_eq_true_eq,decide_eq_false_iff_not,Bool.not_eq_true,Bool.not_eq_false,Int.not_lt,Int.not_le] at hb3
        repeat' (first | apply wz1|apply wz2|apply wz3|apply wz4|apply wz5|apply wz6 | simp -dsimp (maxSteps:=999999) (disch:=omega) only[go_sem,simprocAttr, *])
        try rw [ha]
def shape1 (k s : Int) (n : Nat) : Bool:=
  if k = 0 then n == 0 && s == 0 else if k = 1 then n == 0 && decide (0 < s) else if k = 2 ∨ k = 3 then decide (0 < n) && s == 0 else if k = 4 ∨ k = 5 then n == 1 && s == 0 else false
theorem jaq {a b : Nat} (h : a = b) : (a == b) = true:=by simp [h]
theorem jan {a b : Nat} (h : ¬ a = b) : (a == b) = false:=by simp [h]
theorem jar {p q : Prop} (h : ¬ p) (g : ¬ q) : (p ∨ q) = False:=by simp [h,g]
theorem jas {a b : Int} (h : ¬ a = b) : (a = b) = False:=by simp [h]
mutual
def shapesR : Rx -> Bool
  | .mk k s l=>shape1 k s l.length && shapesL l
def shapesL : List Rx -> Bool
  | []=>true
  | r :: l=>shapesR r && shapesL l
end
theorem jc3 (l : List Rx) : shapesL l = l.all shapesR:=by
  induction l with
  | nil=>rfl
  | cons r l ih=>simp [shapesL,ih]
end Go.Proofs.W
end
