/- Texts that stand behind this claim, one after the other. -/
import Derived.Test.YtdpcldllmiakkaaGreatDoorProg
import Derived.Test.YtdpcldllmiakkaaGreatDoorM5
import Derived.KernelRfl
import Derived.Test.YtdpcldllmiakkaaGreatDoorM3
import Derived.Carry
import Derived.ProofKit
import Derived.Shelf.Strings.Split
import Derived.Shelf.Strings.Cut
import Derived.Shelf.Small.Wraps
import Derived.Shelf.Strings.Prefix
import Derived.Shelf.Sort.Plain
import Derived.Shelf.Slices.CompactI
import Derived.Shelf.Small.Strs
import Derived.Shelf.Strings.Search1
import Derived.Shelf.Strings.Search2
import Derived.Shelf.Strings.Search3
import Derived.Shelf.Strings.Count
import Derived.Shelf.LaysM
import Derived.Shelf.Strings.Shaped
import Derived.Shelf.Unicode.DecodeSlow
import Derived.Ground.Names2Prog
import Derived.Shelf.Slices.In.SortNone
set_option maxHeartbeats 4000000
set_option linter.unusedVariables false
set_option linter.unusedSimpArgs false
section
namespace Go.Proofs.Zs25
open Go Vm
theorem sz1 : sizeT Tryz.prog 1 = some 1:=by kernel_rfl
theorem ag1 : isAggT Tryz.prog 1 = some false:=by kernel_rfl
theorem zr1 : zeroT Tryz.prog 1 = some (.niln):=by kernel_rfl
theorem by1 : bytesT Tryz.prog 1 = some 8:=by kernel_rfl
theorem un2 : Tryz.prog.underlying 2 = some (.int .i64):=by kernel_rfl
theorem sz2 : sizeT Tryz.prog 2 = some 1:=by kernel_rfl
theorem ag2 : isAggT Tryz.prog 2 = some false:=by kernel_rfl
theorem zr2 : zeroT Tryz.prog 2 = some (.int .i64 0):=by kernel_rfl
theorem by2 : bytesT Tryz.prog 2 = some 8:=by kernel_rfl
theorem un3 : Tryz.prog.underlying 3 = some (.int .i64):=by kernel_rfl
theorem sz3 : sizeT Tryz.prog 3 = some 1:=by kernel_rfl
theorem ag3 : isAggT Tryz.prog 3 = some false:=by kernel_rfl
theorem zr3 : zeroT Tryz.prog 3 = some (.int .i64 0):=by kernel_rfl
theorem by3 : bytesT Tryz.prog 3 = some 8:=by kernel_rfl
theorem un4 : Tryz.prog.underlying 4 = some .bool:=by kernel_rfl
theorem sz4 : sizeT Tryz.prog 4 = some 1:=by kernel_rfl
theorem ag4 : isAggT Tryz.prog 4 = some false:=by kernel_rfl
theorem zr4 : zeroT Tryz.prog 4 = some (.bool false):=by kernel_rfl
theorem by4 : bytesT Tryz.prog 4 = some 1:=by kernel_rfl
theorem un5 : Tryz.prog.underlying 5 = some (.int .u8):=by kernel_rfl
theorem sz5 : sizeT Tryz.prog 5 = some 1:=by kernel_rfl
theorem ag5 : isAggT Tryz.prog 5 = some false:=by kernel_rfl
theorem zr5 : zeroT Tryz.prog 5 = some (.int .u8 0):=by kernel_rfl
theorem by5 : bytesT Tryz.prog 5 = some 1:=by kernel_rfl
theorem un9 : Tryz.prog.underlying 9 = some .string:=by kernel_rfl
theorem sz9 : sizeT Tryz.prog 9 = some 1:=by kernel_rfl
theorem ag9 : isAggT Tryz.prog 9 = some false:=by kernel_rfl
theorem zr9 : zeroT Tryz.prog 9 = some (.str []):=by kernel_rfl
theorem by9 : bytesT Tryz.prog 9 = some 16:=by kernel_rfl
theorem un21 : Tryz.prog.underlying 21 = some (.int .i32):=by kernel_rfl
theorem sz21 : sizeT Tryz.prog 21 = some 1:=by kernel_rfl
theorem ag21 : isAggT Tryz.prog 21 = some false:=by kernel_rfl
theorem zr21 : zeroT Tryz.prog 21 = some (.int .i32 0):=by kernel_rfl
theorem by21 : bytesT Tryz.prog 21 = some 4:=by kernel_rfl
theorem un23 : Tryz.prog.underlying 23 = some (.slice 9):=by kernel_rfl
theorem sz23 : sizeT Tryz.prog 23 = some 1:=by kernel_rfl
theorem ag23 : isAggT Tryz.prog 23 = some false:=by kernel_rfl
theorem zr23 : zeroT Tryz.prog 23 = some (.sl true []):=by kernel_rfl
theorem by23 : bytesT Tryz.prog 23 = some 24:=by kernel_rfl
theorem el23 : elemT Tryz.prog 23 = some 9:=by kernel_rfl
theorem sz25 : sizeT Tryz.prog 25 = some 4:=by kernel_rfl
theorem ag25 : isAggT Tryz.prog 25 = some true:=by kernel_rfl
theorem zr25 : zeroT Tryz.prog 25 = some (.agg [.int .i64 0,.str [],.bool false,.int .i64 0]):=by kernel_rfl
theorem by25 : bytesT Tryz.prog 25 = some 40:=by kernel_rfl
theorem fd25_0 : fieldT Tryz.prog 25 0 = some (0,3):=by kernel_rfl
theorem fd25_1 : fieldT Tryz.prog 25 1 = some (1,9):=by kernel_rfl
theorem fd25_2 : fieldT Tryz.prog 25 2 = some (2,4):=by kernel_rfl
theorem fd25_3 : fieldT Tryz.prog 25 3 = some (3,3):=by kernel_rfl
theorem bd25 (ps : List (Nat × D)) : buildD Tryz.prog 25 ps = (fillD (fun i=>([(0,1),(1,1),(2,1),(3,1)] : List (Nat × Nat))[i]?) (D.cells (.agg [.int .i64 0,.str [],.bool false,.int .i64 0])) ps).map .agg:=by kernel_rfl
theorem sz26 : sizeT Tryz.prog 26 = some 4:=by kernel_rfl
theorem ag26 : isAggT Tryz.prog 26 = some true:=by kernel_rfl
theorem zr26 : zeroT Tryz.prog 26 = some (.agg [.int .i64 0,.str [],.bool false,.int .i64 0]):=by kernel_rfl
theorem by26 : bytesT Tryz.prog 26 = some 40:=by kernel_rfl
theorem fd26_0 : fieldT Tryz.prog 26 0 = some (0,3):=by kernel_rfl
theorem fd26_1 : fieldT Tryz.prog 26 1 = some (1,9):=by kernel_rfl
theorem fd26_2 : fieldT Tryz.prog 26 2 = some (2,4):=by kernel_rfl
theorem fd26_3 : fieldT Tryz.prog 26 3 = some (3,3):=by kernel_rfl
theorem bd26 (ps : List (Nat × D)) : buildD Tryz.prog 26 ps = (fillD (fun i=>([(0,1),(1,1),(2,1),(3,1)] : List (Nat × Nat))[i]?) (D.cells (.agg [.int .i64 0,.str [],.bool false,.int .i64 0])) ps).map .agg:=by kernel_rfl
theorem un30 : Tryz.prog.underlying 30 = some (.slice 34):=by kernel_rfl
theorem sz30 : sizeT Tryz.prog 30 = some 1:=by kernel_rfl
theorem ag30 : isAggT Tryz.prog 30 = some false:=by kernel_rfl
theorem zr30 : zeroT Tryz.prog 30 = some (.sl true []):=by kernel_rfl
theorem by30 : bytesT Tryz.prog 30 = some 24:=by kernel_rfl
theorem el30 : elemT Tryz.prog 30 = some 34:=by kernel_rfl
theorem sz33 : sizeT Tryz.prog 33 = some 2:=by kernel_rfl
theorem ag33 : isAggT Tryz.prog 33 = some true:=by kernel_rfl
theorem by33 : bytesT Tryz.prog 33 = some 32:=by kernel_rfl
theorem fd33_0 : fieldT Tryz.prog 33 0 = some (0,23):=by kernel_rfl
theorem fd33_1 : fieldT Tryz.prog 33 1 = some (1,4):=by kernel_rfl
theorem sz34 : sizeT Tryz.prog 34 = some 2:=by kernel_rfl
theorem ag34 : isAggT Tryz.prog 34 = some true:=by kernel_rfl
theorem by34 : bytesT Tryz.prog 34 = some 32:=by kernel_rfl
theorem fd34_0 : fieldT Tryz.prog 34 0 = some (0,23):=by kernel_rfl
theorem fd34_1 : fieldT Tryz.prog 34 1 = some (1,4):=by kernel_rfl
theorem un37 : Tryz.prog.underlying 37 = some (.slice 5):=by kernel_rfl
theorem sz37 : sizeT Tryz.prog 37 = some 1:=by kernel_rfl
theorem ag37 : isAggT Tryz.prog 37 = some false:=by kernel_rfl
theorem zr37 : zeroT Tryz.prog 37 = some (.sl true []):=by kernel_rfl
theorem by37 : bytesT Tryz.prog 37 = some 24:=by kernel_rfl
theorem el37 : elemT Tryz.prog 37 = some 5:=by kernel_rfl
theorem un38 : Tryz.prog.underlying 38 = some (.slice 3):=by kernel_rfl
theorem sz38 : sizeT Tryz.prog 38 = some 1:=by kernel_rfl
theorem ag38 : isAggT Tryz.prog 38 = some false:=by kernel_rfl
theorem zr38 : zeroT Tryz.prog 38 = some (.sl true []):=by kernel_rfl
theorem by38 : bytesT Tryz.prog 38 = some 24:=by kernel_rfl
theorem el38 : elemT Tryz.prog 38 = some 3:=by kernel_rfl
theorem ag39 : isAggT Tryz.prog 39 = some true:=by kernel_rfl
theorem zr39 : zeroT Tryz.prog 39 = some (.agg []):=by kernel_rfl
theorem by39 : bytesT Tryz.prog 39 = some 0:=by kernel_rfl
theorem ag40 : isAggT Tryz.prog 40 = some true:=by kernel_rfl
theorem zr40 : zeroT Tryz.prog 40 = some (.agg []):=by kernel_rfl
theorem by40 : bytesT Tryz.prog 40 = some 0:=by kernel_rfl
theorem ag41 : isAggT Tryz.prog 41 = some true:=by kernel_rfl
theorem zr41 : zeroT Tryz.prog 41 = some (.agg []):=by kernel_rfl
theorem by41 : bytesT Tryz.prog 41 = some 0:=by kernel_rfl
theorem un42 : Tryz.prog.underlying 42 = some (.int .u32):=by kernel_rfl
theorem sz42 : sizeT Tryz.prog 42 = some 1:=by kernel_rfl
theorem ag42 : isAggT Tryz.prog 42 = some false:=by kernel_rfl
theorem zr42 : zeroT Tryz.prog 42 = some (.int .u32 0):=by kernel_rfl
theorem by42 : bytesT Tryz.prog 42 = some 4:=by kernel_rfl
theorem sz43 : sizeT Tryz.prog 43 = some 1:=by kernel_rfl
theorem ag43 : isAggT Tryz.prog 43 = some true:=by kernel_rfl
theorem zr43 : zeroT Tryz.prog 43 = some (.agg [.int .u32 0]):=by kernel_rfl
theorem by43 : bytesT Tryz.prog 43 = some 4:=by kernel_rfl
theorem fd43_0 : fieldT Tryz.prog 43 0 = some (0,41):=by kernel_rfl
theorem fd43_1 : fieldT Tryz.prog 43 1 = some (0,42):=by kernel_rfl
theorem bd43 (ps : List (Nat × D)) : buildD Tryz.prog 43 ps = (fillD (fun i=>([(0,0),(0,1)] : List (Nat × Nat))[i]?) (D.cells (.agg [.int .u32 0])) ps).map .agg:=by kernel_rfl
theorem sz44 : sizeT Tryz.prog 44 = some 1:=by kernel_rfl
theorem ag44 : isAggT Tryz.prog 44 = some true:=by kernel_rfl
theorem zr44 : zeroT Tryz.prog 44 = some (.agg [.int .u32 0]):=by kernel_rfl
theorem by44 : bytesT Tryz.prog 44 = some 4:=by kernel_rfl
theorem fd44_0 : fieldT Tryz.prog 44 0 = some (0,41):=by kernel_rfl
theorem fd44_1 : fieldT Tryz.prog 44 1 = some (0,42):=by kernel_rfl
theorem bd44 (ps : List (Nat × D)) : buildD Tryz.prog 44 ps = (fillD (fun i=>([(0,0),(0,1)] : List (Nat × Nat))[i]?) (D.cells (.agg [.int .u32 0])) ps).map .agg:=by kernel_rfl
theorem sz45 : sizeT Tryz.prog 45 = some 2:=by kernel_rfl
theorem ag45 : isAggT Tryz.prog 45 = some true:=by kernel_rfl
theorem zr45 : zeroT Tryz.prog 45 = some (.agg [.int .i32 0,.int .u32 0]):=by kernel_rfl
theorem by45 : bytesT Tryz.prog 45 = some 8:=by kernel_rfl
theorem fd45_0 : fieldT Tryz.prog 45 0 = some (0,21):=by kernel_rfl
theorem fd45_1 : fieldT Tryz.prog 45 1 = some (1,42):=by kernel_rfl
theorem bd45 (ps : List (Nat × D)) : buildD Tryz.prog 45 ps = (fillD (fun i=>([(0,1),(1,1)] : List (Nat × Nat))[i]?) (D.cells (.agg [.int .i32 0,.int .u32 0])) ps).map .agg:=by kernel_rfl
theorem sz46 : sizeT Tryz.prog 46 = some 2:=by kernel_rfl
theorem ag46 : isAggT Tryz.prog 46 = some true:=by kernel_rfl
theorem zr46 : zeroT Tryz.prog 46 = some (.agg [.int .i32 0,.int .u32 0]):=by kernel_rfl
theorem by46 : bytesT Tryz.prog 46 = some 8:=by kernel_rfl
theorem fd46_0 : fieldT Tryz.prog 46 0 = some (0,21):=by kernel_rfl
theorem fd46_1 : fieldT Tryz.prog 46 1 = some (1,42):=by kernel_rfl
theorem bd46 (ps : List (Nat × D)) : buildD Tryz.prog 46 ps = (fillD (fun i=>([(0,1),(1,1)] : List (Nat × Nat))[i]?) (D.cells (.agg [.int .i32 0,.int .u32 0])) ps).map .agg:=by kernel_rfl
theorem sz47 : sizeT Tryz.prog 47 = some 2:=by kernel_rfl
theorem ag47 : isAggT Tryz.prog 47 = some true:=by kernel_rfl
theorem zr47 : zeroT Tryz.prog 47 = some (.agg [.int .i32 0,.int .u32 0]):=by kernel_rfl
theorem by47 : bytesT Tryz.prog 47 = some 8:=by kernel_rfl
theorem fd47_0 : fieldT Tryz.prog 47 0 = some (0,40):=by kernel_rfl
theorem fd47_1 : fieldT Tryz.prog 47 1 = some (0,46):=by kernel_rfl
theorem bd47 (ps : List (Nat × D)) : buildD Tryz.prog 47 ps = (fillD (fun i=>([(0,0),(0,2)] : List (Nat × Nat))[i]?) (D.cells (.agg [.int .i32 0,.int .u32 0])) ps).map .agg:=by kernel_rfl
theorem sz48 : sizeT Tryz.prog 48 = some 2:=by kernel_rfl
theorem ag48 : isAggT Tryz.prog 48 = some true:=by kernel_rfl
theorem zr48 : zeroT Tryz.prog 48 = some (.agg [.int .i32 0,.int .u32 0]):=by kernel_rfl
theorem by48 : bytesT Tryz.prog 48 = some 8:=by kernel_rfl
theorem fd48_0 : fieldT Tryz.prog 48 0 = some (0,40):=by kernel_rfl
theorem fd48_1 : fieldT Tryz.prog 48 1 = some (0,46):=by kernel_rfl
theorem bd48 (ps : List (Nat × D)) : buildD Tryz.prog 48 ps = (fillD (fun i=>([(0,0),(0,2)] : List (Nat × Nat))[i]?) (D.cells (.agg [.int .i32 0,.int .u32 0])) ps).map .agg:=by kernel_rfl
theorem sz49 : sizeT Tryz.prog 49 = some 3:=by kernel_rfl
theorem ag49 : isAggT Tryz.prog 49 = some true:=by kernel_rfl
theorem zr49 : zeroT Tryz.prog 49 = some (.agg [.int .u32 0,.int .i32 0,.int .u32 0]):=by kernel_rfl
theorem by49 : bytesT Tryz.prog 49 = some 12:=by kernel_rfl
theorem fd49_0 : fieldT Tryz.prog 49 0 = some (0,40):=by kernel_rfl
theorem fd49_1 : fieldT Tryz.prog 49 1 = some (0,44):=by kernel_rfl
theorem fd49_2 : fieldT Tryz.prog 49 2 = some (1,48):=by kernel_rfl
theorem bd49 (ps : List (Nat × D)) : buildD Tryz.prog 49 ps = (fillD (fun i=>([(0,0),(0,1),(1,2)] : List (Nat × Nat))[i]?) (D.cells (.agg [.int .u32 0,.int .i32 0,.int .u32 0])) ps).map .agg:=by kernel_rfl
theorem sz50 : sizeT Tryz.prog 50 = some 3:=by kernel_rfl
theorem ag50 : isAggT Tryz.prog 50 = some true:=by kernel_rfl
theorem zr50 : zeroT Tryz.prog 50 = some (.agg [.int .u32 0,.int .i32 0,.int .u32 0]):=by kernel_rfl
theorem by50 : bytesT Tryz.prog 50 = some 12:=by kernel_rfl
theorem fd50_0 : fieldT Tryz.prog 50 0 = some (0,40):=by kernel_rfl
theorem fd50_1 : fieldT Tryz.prog 50 1 = some (0,44):=by kernel_rfl
theorem fd50_2 : fieldT Tryz.prog 50 2 = some (1,48):=by kernel_rfl
theorem bd50 (ps : List (Nat × D)) : buildD Tryz.prog 50 ps = (fillD (fun i=>([(0,0),(0,1),(1,2)] : List (Nat × Nat))[i]?) (D.cells (.agg [.int .u32 0,.int .i32 0,.int .u32 0])) ps).map .agg:=by kernel_rfl
theorem un51 : Tryz.prog.underlying 51 = some (.pointer 101):=by kernel_rfl
theorem sz51 : sizeT Tryz.prog 51 = some 1:=by kernel_rfl
theorem ag51 : isAggT Tryz.prog 51 = some false:=by kernel_rfl
theorem zr51 : zeroT Tryz.prog 51 = some (.nilp):=by kernel_rfl
theorem by51 : bytesT Tryz.prog 51 = some 8:=by kernel_rfl
theorem sz52 : sizeT Tryz.prog 52 = some 4:=by kernel_rfl
theorem ag52 : isAggT Tryz.prog 52 = some true:=by kernel_rfl
theorem zr52 : zeroT Tryz.prog 52 = some (.agg [.int .u32 0,.int .i32 0,.int .u32 0,.nilp]):=by kernel_rfl
theorem by52 : bytesT Tryz.prog 52 = some 24:=by kernel_rfl
theorem fd52_0 : fieldT Tryz.prog 52 0 = some (0,50):=by kernel_rfl
theorem fd52_1 : fieldT Tryz.prog 52 1 = some (3,51):=by kernel_rfl
theorem bd52 (ps : List (Nat × D)) : buildD Tryz.prog 52 ps = (fillD (fun i=>([(0,3),(3,1)] : List (Nat × Nat))[i]?) (D.cells (.agg [.int .u32 0,.int .i32 0,.int .u32 0,.nilp])) ps).map .agg:=by kernel_rfl
theorem sz53 : sizeT Tryz.prog 53 = some 4:=by kernel_rfl
theorem ag53 : isAggT Tryz.prog 53 = some true:=by kernel_rfl
theorem zr53 : zeroT Tryz.prog 53 = some (.agg [.int .u32 0,.int .i32 0,.int .u32 0,.nilp]):=by kernel_rfl
theorem by53 : bytesT Tryz.prog 53 = some 24:=by kernel_rfl
theorem fd53_0 : fieldT Tryz.prog 53 0 = some (0,50):=by kernel_rfl
theorem fd53_1 : fieldT Tryz.prog 53 1 = some (3,51):=by kernel_rfl
theorem bd53 (ps : List (Nat × D)) : buildD Tryz.prog 53 ps = (fillD (fun i=>([(0,3),(3,1)] : List (Nat × Nat))[i]?) (D.cells (.agg [.int .u32 0,.int .i32 0,.int .u32 0,.nilp])) ps).map .agg:=by kernel_rfl
theorem un54 : Tryz.prog.underlying 54 = some (.array 7 53):=by kernel_rfl
theorem sz54 : sizeT Tryz.prog 54 = some 28:=by kernel_rfl
theorem ag54 : isAggT Tryz.prog 54 = some true:=by kernel_rfl
theorem zr54 : zeroT Tryz.prog 54 = some (.agg [.int .u32 0,.int .i32 0,.int .u32 0,.nilp,.int .u32 0,.int .i32 0,.int .u32 0,.nilp,.int .u32 0,.int .i32 0,.int .u32 0,.nilp,.int .u32 0,.int .i32 0,.int .u32 0,.nilp,.int .u32 0,.int .i32 0,.int .u32 0,.nilp,.int .u32 0,.int .i32 0,.int .u32 0,.nilp,.int .u32 0,.int .i32 0,.int .u32 0,.nilp]):=by kernel_rfl
theorem by54 : bytesT Tryz.prog 54 = some 168:=by kernel_rfl
theorem bd54 (ps : List (Nat × D)) : buildD Tryz.prog 54 ps = (fillD (fun i=>some (i * 4,4)) (D.cells (.agg [.int .u32 0,.int .i32 0,.int .u32 0,.nilp,.int .u32 0,.int .i32 0,.int .u32 0,.nilp,.int .u32 0,.int .i32 0,.int .u32 0,.nilp,.int .u32 0,.int .i32 0,.int .u32 0,.nilp,.int .u32 0,.int .i32 0,.int .u32 0,.nilp,.int .u32 0,.int .i32 0,.int .u32 0,.nilp,.int .u32 0,.int .i32 0,.int .u32 0,.nilp])) ps).map .agg:=by kernel_rfl
theorem ag55 : isAggT Tryz.prog 55 = some true:=by kernel_rfl
theorem zr55 : zeroT Tryz.prog 55 = some (.agg []):=by kernel_rfl
theorem by55 : bytesT Tryz.prog 55 = some 0:=by kernel_rfl
theorem sz56 : sizeT Tryz.prog 56 = some 1:=by kernel_rfl
theorem ag56 : isAggT Tryz.prog 56 = some true:=by kernel_rfl
theorem zr56 : zeroT Tryz.prog 56 = some (.agg [.int .i64 0]):=by kernel_rfl
theorem by56 : bytesT Tryz.prog 56 = some 8:=by kernel_rfl
theorem fd56_0 : fieldT Tryz.prog 56 0 = some (0,41):=by kernel_rfl
theorem fd56_1 : fieldT Tryz.prog 56 1 = some (0,55):=by kernel_rfl
theorem fd56_2 : fieldT Tryz.prog 56 2 = some (0,2):=by kernel_rfl
theorem bd56 (ps : List (Nat × D)) : buildD Tryz.prog 56 ps = (fillD (fun i=>([(0,0),(0,0),(0,1)] : List (Nat × Nat))[i]?) (D.cells (.agg [.int .i64 0])) ps).map .agg:=by kernel_rfl
theorem sz57 : sizeT Tryz.prog 57 = some 1:=by kernel_rfl
theorem ag57 : isAggT Tryz.prog 57 = some true:=by kernel_rfl
theorem zr57 : zeroT Tryz.prog 57 = some (.agg [.int .i64 0]):=by kernel_rfl
theorem by57 : bytesT Tryz.prog 57 = some 8:=by kernel_rfl
theorem fd57_0 : fieldT Tryz.prog 57 0 = some (0,41):=by kernel_rfl
theorem fd57_1 : fieldT Tryz.prog 57 1 = some (0,55):=by kernel_rfl
theorem fd57_2 : fieldT Tryz.prog 57 2 = some (0,2):=by kernel_rfl
theorem bd57 (ps : List (Nat × D)) : buildD Tryz.prog 57 ps = (fillD (fun i=>([(0,0),(0,0),(0,1)] : List (Nat × Nat))[i]?) (D.cells (.agg [.int .i64 0])) ps).map .agg:=by kernel_rfl
theorem sz58 : sizeT Tryz.prog 58 = some 29:=by kernel_rfl
theorem ag58 : isAggT Tryz.prog 58 = some true:=by kernel_rfl
theorem zr58 : zeroT Tryz.prog 58 = some (.agg [.int .u32 0,.int .i32 0,.int .u32 0,.nilp,.int .u32 0,.int .i32 0,.int .u32 0,.nilp,.int .u32 0,.int .i32 0,.int .u32 0,.nilp,.int .u32 0,.int .i32 0,.int .u32 0,.nilp,.int .u32 0,.int .i32 0,.int .u32 0,.nilp,.int .u32 0,.int .i32 0,.int .u32 0,.nilp,.int .u32 0,.int .i32 0,.int .u32 0,.nilp,.int .i64 0]):=by kernel_rfl
theorem by58 : bytesT Tryz.prog 58 = some 176:=by kernel_rfl
theorem fd58_0 : fieldT Tryz.prog 58 0 = some (0,54):=by kernel_rfl
theorem fd58_1 : fieldT Tryz.prog 58 1 = some (28,57):=by kernel_rfl
theorem bd58 (ps : List (Nat × D)) : buildD Tryz.prog 58 ps = (fillD (fun i=>([(0,28),(28,1)] : List (Nat × Nat))[i]?) (D.cells (.agg [.int .u32 0,.int .i32 0,.int .u32 0,.nilp,.int .u32 0,.int .i32 0,.int .u32 0,.nilp,.int .u32 0,.int .i32 0,.int .u32 0,.nilp,.int .u32 0,.int .i32 0,.int .u32 0,.nilp,.int .u32 0,.int .i32 0,.int .u32 0,.nilp,.int .u32 0,.int .i32 0,.int .u32 0,.nilp,.int .u32 0,.int .i32 0,.int .u32 0,.nilp,.int .i64 0])) ps).map .agg:=by kernel_rfl
theorem sz59 : sizeT Tryz.prog 59 = some 29:=by kernel_rfl
theorem ag59 : isAggT Tryz.prog 59 = some true:=by kernel_rfl
theorem zr59 : zeroT Tryz.prog 59 = some (.agg [.int .u32 0,.int .i32 0,.int .u32 0,.nilp,.int .u32 0,.int .i32 0,.int .u32 0,.nilp,.int .u32 0,.int .i32 0,.int .u32 0,.nilp,.int .u32 0,.int .i32 0,.int .u32 0,.nilp,.int .u32 0,.int .i32 0,.int .u32 0,.nilp,.int .u32 0,.int .i32 0,.int .u32 0,.nilp,.int .u32 0,.int .i32 0,.int .u32 0,.nilp,.int .i64 0]):=by kernel_rfl
theorem by59 : bytesT Tryz.prog 59 = some 176:=by kernel_rfl
theorem fd59_0 : fieldT Tryz.prog 59 0 = some (0,54):=by kernel_rfl
theorem fd59_1 : fieldT Tryz.prog 59 1 = some (28,57):=by kernel_rfl
theorem bd59 (ps : List (Nat × D)) : buildD Tryz.prog 59 ps = (fillD (fun i=>([(0,28),(28,1)] : List (Nat × Nat))[i]?) (D.cells (.agg [.int .u32 0,.int .i32 0,.int .u32 0,.nilp,.int .u32 0,.int .i32 0,.int .u32 0,.nilp,.int .u32 0,.int .i32 0,.int .u32 0,.nilp,.int .u32 0,.int .i32 0,.int .u32 0,.nilp,.int .u32 0,.int .i32 0,.int .u32 0,.nilp,.int .u32 0,.int .i32 0,.int .u32 0,.nilp,.int .u32 0,.int .i32 0,.int .u32 0,.nilp,.int .i64 0])) ps).map .agg:=by kernel_rfl
theorem un60 : Tryz.prog.underlying 60 = some (.pointer 59):=by kernel_rfl
theorem sz60 : sizeT Tryz.prog 60 = some 1:=by kernel_rfl
theorem ag60 : isAggT Tryz.prog 60 = some false:=by kernel_rfl
theorem zr60 : zeroT Tryz.prog 60 = some (.nilp):=by kernel_rfl
theorem by60 : bytesT Tryz.prog 60 = some 8:=by kernel_rfl
theorem un61 : Tryz.prog.underlying 61 = some (.array 16 4):=by kernel_rfl
theorem sz61 : sizeT Tryz.prog 61 = some 16:=by kernel_rfl
theorem ag61 : isAggT Tryz.prog 61 = some true:=by kernel_rfl
theorem zr61 : zeroT Tryz.prog 61 = some (.agg [.bool false,.bool false,.bool false,.bool false,.bool false,.bool false,.bool false,.bool false,.bool false,.bool false,.bool false,.bool false,.bool false,.bool false,.bool false,.bool false]):=by kernel_rfl
theorem by61 : bytesT Tryz.prog 61 = some 16:=by kernel_rfl
theorem bd61 (ps : List (Nat × D)) : buildD Tryz.prog 61 ps = (fillD (fun i=>some (i * 1,1)) (D.cells (.agg [.bool false,.bool false,.bool false,.bool false,.bool false,.bool false,.bool false,.bool false,.bool false,.bool false,.bool false,.bool false,.bool false,.bool false,.bool false,.bool false])) ps).map .agg:=by kernel_rfl
theorem un64 : Tryz.prog.underlying 64 = some (.slice 103):=by kernel_rfl
theorem sz64 : sizeT Tryz.prog 64 = some 1:=by kernel_rfl
theorem ag64 : isAggT Tryz.prog 64 = some false:=by kernel_rfl
theorem zr64 : zeroT Tryz.prog 64 = some (.sl true []):=by kernel_rfl
theorem by64 : bytesT Tryz.prog 64 = some 24:=by kernel_rfl
theorem el64 : elemT Tryz.prog 64 = some 103:=by kernel_rfl
theorem un65 : Tryz.prog.underlying 65 = some (.int .i64):=by kernel_rfl
theorem sz65 : sizeT Tryz.prog 65 = some 1:=by kernel_rfl
theorem ag65 : isAggT Tryz.prog 65 = some false:=by kernel_rfl
theorem zr65 : zeroT Tryz.prog 65 = some (.int .i64 0):=by kernel_rfl
theorem by65 : bytesT Tryz.prog 65 = some 8:=by kernel_rfl
theorem un70 : Tryz.prog.underlying 70 = some (.slice 85):=by kernel_rfl
theorem sz70 : sizeT Tryz.prog 70 = some 1:=by kernel_rfl
theorem ag70 : isAggT Tryz.prog 70 = some false:=by kernel_rfl
theorem zr70 : zeroT Tryz.prog 70 = some (.sl true []):=by kernel_rfl
theorem by70 : bytesT Tryz.prog 70 = some 24:=by kernel_rfl
theorem el70 : elemT Tryz.prog 70 = some 85:=by kernel_rfl
theorem un75 : Tryz.prog.underlying 75 = some (.slice 113):=by kernel_rfl
theorem sz75 : sizeT Tryz.prog 75 = some 1:=by kernel_rfl
theorem ag75 : isAggT Tryz.prog 75 = some false:=by kernel_rfl
theorem zr75 : zeroT Tryz.prog 75 = some (.sl true []):=by kernel_rfl
theorem by75 : bytesT Tryz.prog 75 = some 24:=by kernel_rfl
theorem el75 : elemT Tryz.prog 75 = some 113:=by kernel_rfl
theorem sz76 : sizeT Tryz.prog 76 = some 2:=by kernel_rfl
theorem ag76 : isAggT Tryz.prog 76 = some true:=by kernel_rfl
theorem by76 : bytesT Tryz.prog 76 = some 48:=by kernel_rfl
theorem fd76_0 : fieldT Tryz.prog 76 0 = some (0,75):=by kernel_rfl
theorem fd76_1 : fieldT Tryz.prog 76 1 = some (1,38):=by kernel_rfl
theorem sz77 : sizeT Tryz.prog 77 = some 2:=by kernel_rfl
theorem ag77 : isAggT Tryz.prog 77 = some true:=by kernel_rfl
theorem by77 : bytesT Tryz.prog 77 = some 48:=by kernel_rfl
theorem fd77_0 : fieldT Tryz.prog 77 0 = some (0,75):=by kernel_rfl
theorem fd77_1 : fieldT Tryz.prog 77 1 = some (1,38):=by kernel_rfl
theorem un80 : Tryz.prog.underlying 80 = some (.int .u16):=by kernel_rfl
theorem sz80 : sizeT Tryz.prog 80 = some 1:=by kernel_rfl
theorem ag80 : isAggT Tryz.prog 80 = some false:=by kernel_rfl
theorem zr80 : zeroT Tryz.prog 80 = some (.int .u16 0):=by kernel_rfl
theorem by80 : bytesT Tryz.prog 80 = some 2:=by kernel_rfl
theorem un81 : Tryz.prog.underlying 81 = some (.slice 83):=by kernel_rfl
theorem sz81 : sizeT Tryz.prog 81 = some 1:=by kernel_rfl
theorem ag81 : isAggT Tryz.prog 81 = some false:=by kernel_rfl
theorem zr81 : zeroT Tryz.prog 81 = some (.sl true []):=by kernel_rfl
theorem by81 : bytesT Tryz.prog 81 = some 24:=by kernel_rfl
theorem el81 : elemT Tryz.prog 81 = some 83:=by kernel_rfl
theorem sz82 : sizeT Tryz.prog 82 = some 3:=by kernel_rfl
theorem ag82 : isAggT Tryz.prog 82 = some true:=by kernel_rfl
theorem zr82 : zeroT Tryz.prog 82 = some (.agg [.int .u8 0,.int .u16 0,.sl true []]):=by kernel_rfl
theorem by82 : bytesT Tryz.prog 82 = some 32:=by kernel_rfl
theorem fd82_0 : fieldT Tryz.prog 82 0 = some (0,5):=by kernel_rfl
theorem fd82_1 : fieldT Tryz.prog 82 1 = some (1,80):=by kernel_rfl
theorem fd82_2 : fieldT Tryz.prog 82 2 = some (2,81):=by kernel_rfl
theorem bd82 (ps : List (Nat × D)) : buildD Tryz.prog 82 ps = (fillD (fun i=>([(0,1),(1,1),(2,1)] : List (Nat × Nat))[i]?) (D.cells (.agg [.int .u8 0,.int .u16 0,.sl true []])) ps).map .agg:=by kernel_rfl
theorem sz83 : sizeT Tryz.prog 83 = some 3:=by kernel_rfl
theorem ag83 : isAggT Tryz.prog 83 = some true:=by kernel_rfl
theorem zr83 : zeroT Tryz.prog 83 = some (.agg [.int .u8 0,.int .u16 0,.sl true []]):=by kernel_rfl
theorem by83 : bytesT Tryz.prog 83 = some 32:=by kernel_rfl
theorem fd83_0 : fieldT Tryz.prog 83 0 = some (0,5):=by kernel_rfl
theorem fd83_1 : fieldT Tryz.prog 83 1 = some (1,80):=by kernel_rfl
theorem fd83_2 : fieldT Tryz.prog 83 2 = some (2,81):=by kernel_rfl
theorem bd83 (ps : List (Nat × D)) : buildD Tryz.prog 83 ps = (fillD (fun i=>([(0,1),(1,1),(2,1)] : List (Nat × Nat))[i]?) (D.cells (.agg [.int .u8 0,.int .u16 0,.sl true []])) ps).map .agg:=by kernel_rfl
theorem sz84 : sizeT Tryz.prog 84 = some 5:=by kernel_rfl
theorem ag84 : isAggT Tryz.prog 84 = some true:=by kernel_rfl
theorem by84 : bytesT Tryz.prog 84 = some 56:=by kernel_rfl
theorem fd84_0 : fieldT Tryz.prog 84 0 = some (0,9):=by kernel_rfl
theorem fd84_1 : fieldT Tryz.prog 84 1 = some (1,83):=by kernel_rfl
theorem fd84_2 : fieldT Tryz.prog 84 2 = some (4,4):=by kernel_rfl
theorem sz85 : sizeT Tryz.prog 85 = some 5:=by kernel_rfl
theorem ag85 : isAggT Tryz.prog 85 = some true:=by kernel_rfl
theorem by85 : bytesT Tryz.prog 85 = some 56:=by kernel_rfl
theorem fd85_0 : fieldT Tryz.prog 85 0 = some (0,9):=by kernel_rfl
theorem fd85_1 : fieldT Tryz.prog 85 1 = some (1,83):=by kernel_rfl
theorem fd85_2 : fieldT Tryz.prog 85 2 = some (4,4):=by kernel_rfl
theorem un88 : Tryz.prog.underlying 88 = some (.slice 26):=by kernel_rfl
theorem sz88 : sizeT Tryz.prog 88 = some 1:=by kernel_rfl
theorem ag88 : isAggT Tryz.prog 88 = some false:=by kernel_rfl
theorem zr88 : zeroT Tryz.prog 88 = some (.sl true []):=by kernel_rfl
theorem by88 : bytesT Tryz.prog 88 = some 24:=by kernel_rfl
theorem el88 : elemT Tryz.prog 88 = some 26:=by kernel_rfl
theorem un94 : Tryz.prog.underlying 94 = some (.pointer 53):=by kernel_rfl
theorem sz94 : sizeT Tryz.prog 94 = some 1:=by kernel_rfl
theorem ag94 : isAggT Tryz.prog 94 = some false:=by kernel_rfl
theorem zr94 : zeroT Tryz.prog 94 = some (.nilp):=by kernel_rfl
theorem by94 : bytesT Tryz.prog 94 = some 8:=by kernel_rfl
theorem sz100 : sizeT Tryz.prog 100 = some 8:=by kernel_rfl
theorem ag100 : isAggT Tryz.prog 100 = some true:=by kernel_rfl
theorem by100 : bytesT Tryz.prog 100 = some 104:=by kernel_rfl
theorem fd100_0 : fieldT Tryz.prog 100 0 = some (0,70):=by kernel_rfl
theorem fd100_1 : fieldT Tryz.prog 100 1 = some (1,50):=by kernel_rfl
theorem fd100_2 : fieldT Tryz.prog 100 2 = some (4,77):=by kernel_rfl
theorem fd100_3 : fieldT Tryz.prog 100 3 = some (6,65):=by kernel_rfl
theorem fd100_4 : fieldT Tryz.prog 100 4 = some (7,57):=by kernel_rfl
theorem sz101 : sizeT Tryz.prog 101 = some 8:=by kernel_rfl
theorem ag101 : isAggT Tryz.prog 101 = some true:=by kernel_rfl
theorem by101 : bytesT Tryz.prog 101 = some 104:=by kernel_rfl
theorem fd101_0 : fieldT Tryz.prog 101 0 = some (0,70):=by kernel_rfl
theorem fd101_1 : fieldT Tryz.prog 101 1 = some (1,50):=by kernel_rfl
theorem fd101_2 : fieldT Tryz.prog 101 2 = some (4,77):=by kernel_rfl
theorem fd101_3 : fieldT Tryz.prog 101 3 = some (6,65):=by kernel_rfl
theorem fd101_4 : fieldT Tryz.prog 101 4 = some (7,57):=by kernel_rfl
theorem sz102 : sizeT Tryz.prog 102 = some 3:=by kernel_rfl
theorem ag102 : isAggT Tryz.prog 102 = some true:=by kernel_rfl
theorem zr102 : zeroT Tryz.prog 102 = some (.agg [.int .i64 0,.int .i64 0,.int .i64 0]):=by kernel_rfl
theorem by102 : bytesT Tryz.prog 102 = some 24:=by kernel_rfl
theorem fd102_0 : fieldT Tryz.prog 102 0 = some (0,3):=by kernel_rfl
theorem fd102_1 : fieldT Tryz.prog 102 1 = some (1,3):=by kernel_rfl
theorem fd102_2 : fieldT Tryz.prog 102 2 = some (2,3):=by kernel_rfl
theorem bd102 (ps : List (Nat × D)) : buildD Tryz.prog 102 ps = (fillD (fun i=>([(0,1),(1,1),(2,1)] : List (Nat × Nat))[i]?) (D.cells (.agg [.int .i64 0,.int .i64 0,.int .i64 0])) ps).map .agg:=by kernel_rfl
theorem sz103 : sizeT Tryz.prog 103 = some 3:=by kernel_rfl
theorem ag103 : isAggT Tryz.prog 103 = some true:=by kernel_rfl
theorem zr103 : zeroT Tryz.prog 103 = some (.agg [.int .i64 0,.int .i64 0,.int .i64 0]):=by kernel_rfl
theorem by103 : bytesT Tryz.prog 103 = some 24:=by kernel_rfl
theorem fd103_0 : fieldT Tryz.prog 103 0 = some (0,3):=by kernel_rfl
theorem fd103_1 : fieldT Tryz.prog 103 1 = some (1,3):=by kernel_rfl
theorem fd103_2 : fieldT Tryz.prog 103 2 = some (2,3):=by kernel_rfl
theorem bd103 (ps : List (Nat × D)) : buildD Tryz.prog 103 ps = (fillD (fun i=>([(0,1),(1,1),(2,1)] : List (Nat × Nat))[i]?) (D.cells (.agg [.int .i64 0,.int .i64 0,.int .i64 0])) ps).map .agg:=by kernel_rfl
theorem un104 : Tryz.prog.underlying 104 = some (.slice 4):=by kernel_rfl
theorem sz104 : sizeT Tryz.prog 104 = some 1:=by kernel_rfl
theorem ag104 : isAggT Tryz.prog 104 = some false:=by kernel_rfl
theorem zr104 : zeroT Tryz.prog 104 = some (.sl true []):=by kernel_rfl
theorem by104 : bytesT Tryz.prog 104 = some 24:=by kernel_rfl
theorem el104 : elemT Tryz.prog 104 = some 4:=by kernel_rfl
theorem un113 : Tryz.prog.underlying 113 = some (.array 16 3):=by kernel_rfl
theorem sz113 : sizeT Tryz.prog 113 = some 16:=by kernel_rfl
theorem ag113 : isAggT Tryz.prog 113 = some true:=by kernel_rfl
theorem zr113 : zeroT Tryz.prog 113 = some (.agg [.int .i64 0,.int .i64 0,.int .i64 0,.int .i64 0,.int .i64 0,.int .i64 0,.int .i64 0,.int .i64 0,.int .i64 0,.int .i64 0,.int .i64 0,.int .i64 0,.int .i64 0,.int .i64 0,.int .i64 0,.int .i64 0]):=by kernel_rfl
theorem by113 : bytesT Tryz.prog 113 = some 128:=by kernel_rfl
theorem bd113 (ps : List (Nat × D)) : buildD Tryz.prog 113 ps = (fillD (fun i=>some (i * 1,1)) (D.cells (.agg [.int .i64 0,.int .i64 0,.int .i64 0,.int .i64 0,.int .i64 0,.int .i64 0,.int .i64 0,.int .i64 0,.int .i64 0,.int .i64 0,.int .i64 0,.int .i64 0,.int .i64 0,.int .i64 0,.int .i64 0,.int .i64 0])) ps).map .agg:=by kernel_rfl
theorem un116 : Tryz.prog.underlying 116 = some (.pointer 50):=by kernel_rfl
theorem sz116 : sizeT Tryz.prog 116 = some 1:=by kernel_rfl
theorem ag116 : isAggT Tryz.prog 116 = some false:=by kernel_rfl
theorem zr116 : zeroT Tryz.prog 116 = some (.nilp):=by kernel_rfl
theorem by116 : bytesT Tryz.prog 116 = some 8:=by kernel_rfl
theorem un119 : Tryz.prog.underlying 119 = some (.pointer 57):=by kernel_rfl
theorem sz119 : sizeT Tryz.prog 119 = some 1:=by kernel_rfl
theorem ag119 : isAggT Tryz.prog 119 = some false:=by kernel_rfl
theorem zr119 : zeroT Tryz.prog 119 = some (.nilp):=by kernel_rfl
theorem by119 : bytesT Tryz.prog 119 = some 8:=by kernel_rfl
theorem un121 : Tryz.prog.underlying 121 = some (.pointer 2):=by kernel_rfl
theorem sz121 : sizeT Tryz.prog 121 = some 1:=by kernel_rfl
theorem ag121 : isAggT Tryz.prog 121 = some false:=by kernel_rfl
theorem zr121 : zeroT Tryz.prog 121 = some (.nilp):=by kernel_rfl
theorem by121 : bytesT Tryz.prog 121 = some 8:=by kernel_rfl
theorem un126 : Tryz.prog.underlying 126 = some (.int .u64):=by kernel_rfl
theorem sz126 : sizeT Tryz.prog 126 = some 1:=by kernel_rfl
theorem ag126 : isAggT Tryz.prog 126 = some false:=by kernel_rfl
theorem zr126 : zeroT Tryz.prog 126 = some (.int .u64 0):=by kernel_rfl
theorem by126 : bytesT Tryz.prog 126 = some 8:=by kernel_rfl
theorem un139 : Tryz.prog.underlying 139 = some (.pointer 44):=by kernel_rfl
theorem sz139 : sizeT Tryz.prog 139 = some 1:=by kernel_rfl
theorem ag139 : isAggT Tryz.prog 139 = some false:=by kernel_rfl
theorem zr139 : zeroT Tryz.prog 139 = some (.nilp):=by kernel_rfl
theorem by139 : bytesT Tryz.prog 139 = some 8:=by kernel_rfl
theorem un141 : Tryz.prog.underlying 141 = some (.pointer 42):=by kernel_rfl
theorem sz141 : sizeT Tryz.prog 141 = some 1:=by kernel_rfl
theorem ag141 : isAggT Tryz.prog 141 = some false:=by kernel_rfl
theorem zr141 : zeroT Tryz.prog 141 = some (.nilp):=by kernel_rfl
theorem by141 : bytesT Tryz.prog 141 = some 8:=by kernel_rfl
theorem un152 : Tryz.prog.underlying 152 = some (.pointer 3):=by kernel_rfl
theorem sz152 : sizeT Tryz.prog 152 = some 1:=by kernel_rfl
theorem ag152 : isAggT Tryz.prog 152 = some false:=by kernel_rfl
theorem zr152 : zeroT Tryz.prog 152 = some (.nilp):=by kernel_rfl
theorem by152 : bytesT Tryz.prog 152 = some 8:=by kernel_rfl
theorem un153 : Tryz.prog.underlying 153 = some (.slice 38):=by kernel_rfl
theorem sz153 : sizeT Tryz.prog 153 = some 1:=by kernel_rfl
theorem ag153 : isAggT Tryz.prog 153 = some false:=by kernel_rfl
theorem zr153 : zeroT Tryz.prog 153 = some (.sl true []):=by kernel_rfl
theorem by153 : bytesT Tryz.prog 153 = some 24:=by kernel_rfl
theorem el153 : elemT Tryz.prog 153 = some 38:=by kernel_rfl
theorem un154 : Tryz.prog.underlying 154 = some (.slice 80):=by kernel_rfl
theorem sz154 : sizeT Tryz.prog 154 = some 1:=by kernel_rfl
theorem ag154 : isAggT Tryz.prog 154 = some false:=by kernel_rfl
theorem zr154 : zeroT Tryz.prog 154 = some (.sl true []):=by kernel_rfl
theorem by154 : bytesT Tryz.prog 154 = some 24:=by kernel_rfl
theorem el154 : elemT Tryz.prog 154 = some 80:=by kernel_rfl
theorem sz155 : sizeT Tryz.prog 155 = some 4:=by kernel_rfl
theorem ag155 : isAggT Tryz.prog 155 = some true:=by kernel_rfl
theorem by155 : bytesT Tryz.prog 155 = some 96:=by kernel_rfl
theorem fd155_0 : fieldT Tryz.prog 155 0 = some (0,153):=by kernel_rfl
theorem fd155_1 : fieldT Tryz.prog 155 1 = some (1,154):=by kernel_rfl
theorem fd155_2 : fieldT Tryz.prog 155 2 = some (2,38):=by kernel_rfl
theorem fd155_3 : fieldT Tryz.prog 155 3 = some (3,38):=by kernel_rfl
theorem sz156 : sizeT Tryz.prog 156 = some 4:=by kernel_rfl
theorem ag156 : isAggT Tryz.prog 156 = some true:=by kernel_rfl
theorem by156 : bytesT Tryz.prog 156 = some 96:=by kernel_rfl
theorem fd156_0 : fieldT Tryz.prog 156 0 = some (0,153):=by kernel_rfl
theorem fd156_1 : fieldT Tryz.prog 156 1 = some (1,154):=by kernel_rfl
theorem fd156_2 : fieldT Tryz.prog 156 2 = some (2,38):=by kernel_rfl
theorem fd156_3 : fieldT Tryz.prog 156 3 = some (3,38):=by kernel_rfl
theorem un159 : Tryz.prog.underlying 159 = some (.pointer 162):=by kernel_rfl
theorem sz159 : sizeT Tryz.prog 159 = some 1:=by kernel_rfl
theorem ag159 : isAggT Tryz.prog 159 = some false:=by kernel_rfl
theorem zr159 : zeroT Tryz.prog 159 = some (.nilp):=by kernel_rfl
theorem by159 : bytesT Tryz.prog 159 = some 8:=by kernel_rfl
theorem un160 : Tryz.prog.underlying 160 = some (.map 9 3):=by kernel_rfl
theorem sz160 : sizeT Tryz.prog 160 = some 1:=by kernel_rfl
theorem ag160 : isAggT Tryz.prog 160 = some false:=by kernel_rfl
theorem zr160 : zeroT Tryz.prog 160 = some (.nilm):=by kernel_rfl
theorem by160 : bytesT Tryz.prog 160 = some 8:=by kernel_rfl
theorem sz161 : sizeT Tryz.prog 161 = some 8:=by kernel_rfl
theorem ag161 : isAggT Tryz.prog 161 = some true:=by kernel_rfl
theorem by161 : bytesT Tryz.prog 161 = some 176:=by kernel_rfl
theorem fd161_0 : fieldT Tryz.prog 161 0 = some (0,156):=by kernel_rfl
theorem fd161_1 : fieldT Tryz.prog 161 1 = some (4,77):=by kernel_rfl
theorem fd161_2 : fieldT Tryz.prog 161 2 = some (6,160):=by kernel_rfl
theorem fd161_3 : fieldT Tryz.prog 161 3 = some (7,153):=by kernel_rfl
theorem sz162 : sizeT Tryz.prog 162 = some 8:=by kernel_rfl
theorem ag162 : isAggT Tryz.prog 162 = some true:=by kernel_rfl
theorem by162 : bytesT Tryz.prog 162 = some 176:=by kernel_rfl
theorem fd162_0 : fieldT Tryz.prog 162 0 = some (0,156):=by kernel_rfl
theorem fd162_1 : fieldT Tryz.prog 162 1 = some (4,77):=by kernel_rfl
theorem fd162_2 : fieldT Tryz.prog 162 2 = some (6,160):=by kernel_rfl
theorem fd162_3 : fieldT Tryz.prog 162 3 = some (7,153):=by kernel_rfl
theorem un171 : Tryz.prog.underlying 171 = some (.pointer 48):=by kernel_rfl
theorem sz171 : sizeT Tryz.prog 171 = some 1:=by kernel_rfl
theorem ag171 : isAggT Tryz.prog 171 = some false:=by kernel_rfl
theorem zr171 : zeroT Tryz.prog 171 = some (.nilp):=by kernel_rfl
theorem by171 : bytesT Tryz.prog 171 = some 8:=by kernel_rfl
theorem un180 : Tryz.prog.underlying 180 = some (.pointer 182):=by kernel_rfl
theorem sz180 : sizeT Tryz.prog 180 = some 1:=by kernel_rfl
theorem ag180 : isAggT Tryz.prog 180 = some false:=by kernel_rfl
theorem zr180 : zeroT Tryz.prog 180 = some (.nilp):=by kernel_rfl
theorem by180 : bytesT Tryz.prog 180 = some 8:=by kernel_rfl
theorem sz181 : sizeT Tryz.prog 181 = some 4:=by kernel_rfl
theorem ag181 : isAggT Tryz.prog 181 = some true:=by kernel_rfl
theorem by181 : bytesT Tryz.prog 181 = some 96:=by kernel_rfl
theorem fd181_0 : fieldT Tryz.prog 181 0 = some (0,156):=by kernel_rfl
theorem sz182 : sizeT Tryz.prog 182 = some 4:=by kernel_rfl
theorem ag182 : isAggT Tryz.prog 182 = some true:=by kernel_rfl
theorem by182 : bytesT Tryz.prog 182 = some 96:=by kernel_rfl
theorem fd182_0 : fieldT Tryz.prog 182 0 = some (0,156):=by kernel_rfl
theorem un190 : Tryz.prog.underlying 190 = some (.pointer 46):=by kernel_rfl
theorem sz190 : sizeT Tryz.prog 190 = some 1:=by kernel_rfl
theorem ag190 : isAggT Tryz.prog 190 = some false:=by kernel_rfl
theorem zr190 : zeroT Tryz.prog 190 = some (.nilp):=by kernel_rfl
theorem by190 : bytesT Tryz.prog 190 = some 8:=by kernel_rfl
theorem un192 : Tryz.prog.underlying 192 = some (.pointer 21):=by kernel_rfl
theorem sz192 : sizeT Tryz.prog 192 = some 1:=by kernel_rfl
theorem ag192 : isAggT Tryz.prog 192 = some false:=by kernel_rfl
theorem zr192 : zeroT Tryz.prog 192 = some (.nilp):=by kernel_rfl
theorem by192 : bytesT Tryz.prog 192 = some 8:=by kernel_rfl
theorem un200 : Tryz.prog.underlying 200 = some (.slice 202):=by kernel_rfl
theorem sz200 : sizeT Tryz.prog 200 = some 1:=by kernel_rfl
theorem ag200 : isAggT Tryz.prog 200 = some false:=by kernel_rfl
theorem zr200 : zeroT Tryz.prog 200 = some (.sl true []):=by kernel_rfl
theorem by200 : bytesT Tryz.prog 200 = some 24:=by kernel_rfl
theorem el200 : elemT Tryz.prog 200 = some 202:=by kernel_rfl
theorem un202 : Tryz.prog.underlying 202 = some (.array 2 3):=by kernel_rfl
theorem sz202 : sizeT Tryz.prog 202 = some 2:=by kernel_rfl
theorem ag202 : isAggT Tryz.prog 202 = some true:=by kernel_rfl
theorem zr202 : zeroT Tryz.prog 202 = some (.agg [.int .i64 0,.int .i64 0]):=by kernel_rfl
theorem by202 : bytesT Tryz.prog 202 = some 16:=by kernel_rfl
theorem bd202 (ps : List (Nat × D)) : buildD Tryz.prog 202 ps = (fillD (fun i=>some (i * 1,1)) (D.cells (.agg [.int .i64 0,.int .i64 0])) ps).map .agg:=by kernel_rfl
theorem sz203 : sizeT Tryz.prog 203 = some 1:=by kernel_rfl
theorem ag203 : isAggT Tryz.prog 203 = some false:=by kernel_rfl
theorem zr203 : zeroT Tryz.prog 203 = some (.niln):=by kernel_rfl
theorem by203 : bytesT Tryz.prog 203 = some 8:=by kernel_rfl
theorem sz204 : sizeT Tryz.prog 204 = some 1:=by kernel_rfl
theorem ag204 : isAggT Tryz.prog 204 = some false:=by kernel_rfl
theorem zr204 : zeroT Tryz.prog 204 = some (.niln):=by kernel_rfl
theorem by204 : bytesT Tryz.prog 204 = some 8:=by kernel_rfl
theorem un209 : Tryz.prog.underlying 209 = some (.array 256 5):=by kernel_rfl
theorem sz209 : sizeT Tryz.prog 209 = some 256:=by kernel_rfl
theorem ag209 : isAggT Tryz.prog 209 = some true:=by kernel_rfl
theorem zr209 : zeroT Tryz.prog 209 = some (.agg [.int .u8 0,.int .u8 0,.int .u8 0,.int .u8 0,.int .u8 0,.int .u8 0,.int .u8 0,.int .u8 0,.int .u8 0,.int .u8 0,.int .u8 0,.int .u8 0,.int .u8 0,.int .u8 0,.int .u8 0,.int .u8 0,.int .u8 0,.int .u8 0,.int .u8 0,.int .u8 0,.int .u8 0,.int .u8 0,.int .u8 0,.int .u8 0,.int .u8 0,.int .u8 0,.int .u8 0,.int .u8 0,.int .u8 0,.int .u8 0,.int .u8 0,.int .u8 0,.int .u8 0,.int .u8 0,.int .u8 0,.int .u8 0,.int .u8 0,.int .u8 0,.int .u8 0,.int .u8 0,.int .u8 0,.int .u8 0,.int .u8 0,.int .u8 0,.int .u8 0,.int .u8 0,.int .u8 0,.int .u8 0,.int .u8 0,.int .u8 0,.int .u8 0,.int .u8 0,.int .u8 0,.int .u8 0,.int .u8 0,.int .u8 0,.int .u8 0,.int .u8 0,.int .u8 0,.int .u8 0,.int .u8 0,.int .u8 0,.int .u8 0,.int .u8 0,.int .u8 0,.int .u8 0,.int .u8 0,.int .u8 0,.int .u8 0,.int .u8 0,.int .u8 0,.int .u8 0,.int .u8 0,.int .u8 0,.int .u8 0,.int .u8 0,.int .u8 0,.int .u8 0,.int .u8 0,.int .u8 0,.int .u8 0,.int .u8 0,.int .u8 0,.int .u8 0,.int .u8 0,.int .u8 0,.int .u8 0,.int .u8 0,.int .u8 0,.int .u8 0,.int .u8 0,.int .u8 0,.int .u8 0,.int .u8 0,.int .u8 0,.int .u8 0,.int .u8 0,.int .u8 0,.int .u8 0,.int .u8 0,.int .u8 0,.int .u8 0,.int .u8 0,.int .u8 0,.int .u8 0,.int .u8 0,.int .u8 0,.int .u8 0,.int .u8 0,.int .u8 0,.int .u8 0,.int .u8 0,.int .u8 0,.int .u8 0,.int .u8 0,.int .u8 0,.int .u8 0,.int .u8 0,.int .u8 0,.int .u8 0,.int .u8 0,.int .u8 0,.int .u8 0,.int .u8 0,.int .u8 0,.int .u8 0,.int .u8 0,.int .u8 0,.int .u8 0,.int .u8 0,.int .u8 0,.int .u8 0,.int .u8 0,.int .u8 0,.int .u8 0,.int .u8 0,.int .u8 0,.int .u8 0,.int .u8 0,.int .u8 0,.int .u8 0,.int .u8 0,.int .u8 0,.int .u8 0,.int .u8 0,.int .u8 0,.int .u8 0,.int .u8 0,.int .u8 0,.int .u8 0,.int .u8 0,.int .u8 0,.int .u8 0,.int .u8 0,.int .u8 0,.int .u8 0,.int .u8 0,.int .u8 0,.int .u8 0,.int .u8 0,.int .u8 0,.int .u8 0,.int .u8 0,.int .u8 0,.int .u8 0,.int .u8 0,.int .u8 0,.int .u8 0,.int .u8 0,.int .u8 0,.int .u8 0,.int .u8 0,.int .u8 0,.int .u8 0,.int .u8 0,.int .u8 0,.int .u8 0,.int .u8 0,.int .u8 0,.int .u8 0,.int .u8 0,.int .u8 0,.int .u8 0,.int .u8 0,.int .u8 0,.int .u8 0,.int .u8 0,.int .u8 0,.int .u8 0,.int .u8 0,.int .u8 0,.int .u8 0,.int .u8 0,.int .u8 0,.int .u8 0,.int .u8 0,.int .u8 0,.int .u8 0,.int .u8 0,.int .u8 0,.int .u8 0,.int .u8 0,.int .u8 0,.int .u8 0,.int .u8 0,.int .u8 0,.int .u8 0,.int .u8 0,.int .u8 0,.int .u8 0,.int .u8 0,.int .u8 0,.int .u8 0,.int .u8 0,.int .u8 0,.int .u8 0,.int .u8 0,.int .u8 0,.int .u8 0,.int .u8 0,.int .u8 0,.int .u8 0,.int .u8 0,.int .u8 0,.int .u8 0,.int .u8 0,.int .u8 0,.int .u8 0,.int .u8 0,.int .u8 0,.int .u8 0,.int .u8 0,.int .u8 0,.int .u8 0,.int .u8 0,.int .u8 0,.int .u8 0,.int .u8 0,.int .u8 0,.int .u8 0,.int .u8 0,.int .u8 0,.int .u8 0,.int .u8 0,.int .u8 0,.int .u8 0,.int .u8 0,.int .u8 0,.int .u8 0,.int .u8 0,.int .u8 0,.int .u8 0,.int .u8 0,.int .u8 0,.int .u8 0,.int .u8 0]):=by kernel_rfl
theorem by209 : bytesT Tryz.prog 209 = some 256:=by kernel_rfl
theorem sz210 : sizeT Tryz.prog 210 = some 2:=by kernel_rfl
theorem ag210 : isAggT Tryz.prog 210 = some true:=by kernel_rfl
theorem zr210 : zeroT Tryz.prog 210 = some (.agg [.int .u8 0,.int .u8 0]):=by kernel_rfl
theorem by210 : bytesT Tryz.prog 210 = some 2:=by kernel_rfl
theorem fd210_0 : fieldT Tryz.prog 210 0 = some (0,5):=by kernel_rfl
theorem fd210_1 : fieldT Tryz.prog 210 1 = some (1,5):=by kernel_rfl
theorem bd210 (ps : List (Nat × D)) : buildD Tryz.prog 210 ps = (fillD (fun i=>([(0,1),(1,1)] : List (Nat × Nat))[i]?) (D.cells (.agg [.int .u8 0,.int .u8 0])) ps).map .agg:=by kernel_rfl
theorem sz211 : sizeT Tryz.prog 211 = some 2:=by kernel_rfl
theorem ag211 : isAggT Tryz.prog 211 = some true:=by kernel_rfl
theorem zr211 : zeroT Tryz.prog 211 = some (.agg [.int .u8 0,.int .u8 0]):=by kernel_rfl
theorem by211 : bytesT Tryz.prog 211 = some 2:=by kernel_rfl
theorem fd211_0 : fieldT Tryz.prog 211 0 = some (0,5):=by kernel_rfl
theorem fd211_1 : fieldT Tryz.prog 211 1 = some (1,5):=by kernel_rfl
theorem bd211 (ps : List (Nat × D)) : buildD Tryz.prog 211 ps = (fillD (fun i=>([(0,1),(1,1)] : List (Nat × Nat))[i]?) (D.cells (.agg [.int .u8 0,.int .u8 0])) ps).map .agg:=by kernel_rfl
theorem un212 : Tryz.prog.underlying 212 = some (.array 16 211):=by kernel_rfl
theorem sz212 : sizeT Tryz.prog 212 = some 32:=by kernel_rfl
theorem ag212 : isAggT Tryz.prog 212 = some true:=by kernel_rfl
theorem zr212 : zeroT Tryz.prog 212 = some (.agg [.int .u8 0,.int .u8 0,.int .u8 0,.int .u8 0,.int .u8 0,.int .u8 0,.int .u8 0,.int .u8 0,.int .u8 0,.int .u8 0,.int .u8 0,.int .u8 0,.int .u8 0,.int .u8 0,.int .u8 0,.int .u8 0,.int .u8 0,.int .u8 0,.int .u8 0,.int .u8 0,.int .u8 0,.int .u8 0,.int .u8 0,.int .u8 0,.int .u8 0,.int .u8 0,.int .u8 0,.int .u8 0,.int .u8 0,.int .u8 0,.int .u8 0,.int .u8 0]):=by kernel_rfl
theorem by212 : bytesT Tryz.prog 212 = some 32:=by kernel_rfl
theorem bd212 (ps : List (Nat × D)) : buildD Tryz.prog 212 ps = (fillD (fun i=>some (i * 2,2)) (D.cells (.agg [.int .u8 0,.int .u8 0,.int .u8 0,.int .u8 0,.int .u8 0,.int .u8 0,.int .u8 0,.int .u8 0,.int .u8 0,.int .u8 0,.int .u8 0,.int .u8 0,.int .u8 0,.int .u8 0,.int .u8 0,.int .u8 0,.int .u8 0,.int .u8 0,.int .u8 0,.int .u8 0,.int .u8 0,.int .u8 0,.int .u8 0,.int .u8 0,.int .u8 0,.int .u8 0,.int .u8 0,.int .u8 0,.int .u8 0,.int .u8 0,.int .u8 0,.int .u8 0])) ps).map .agg:=by kernel_rfl
theorem un220 : Tryz.prog.underlying 220 = some (.int .i64):=by kernel_rfl
theorem sz220 : sizeT Tryz.prog 220 = some 1:=by kernel_rfl
theorem ag220 : isAggT Tryz.prog 220 = some false:=by kernel_rfl
theorem zr220 : zeroT Tryz.prog 220 = some (.int .i64 0):=by kernel_rfl
theorem by220 : bytesT Tryz.prog 220 = some 8:=by kernel_rfl
theorem un229 : Tryz.prog.underlying 229 = some (.int .u64):=by kernel_rfl
theorem sz229 : sizeT Tryz.prog 229 = some 1:=by kernel_rfl
theorem ag229 : isAggT Tryz.prog 229 = some false:=by kernel_rfl
theorem zr229 : zeroT Tryz.prog 229 = some (.int .u64 0):=by kernel_rfl
theorem by229 : bytesT Tryz.prog 229 = some 8:=by kernel_rfl
theorem un230 : Tryz.prog.underlying 230 = some (.int .u64):=by kernel_rfl
theorem sz230 : sizeT Tryz.prog 230 = some 1:=by kernel_rfl
theorem ag230 : isAggT Tryz.prog 230 = some false:=by kernel_rfl
theorem zr230 : zeroT Tryz.prog 230 = some (.int .u64 0):=by kernel_rfl
theorem by230 : bytesT Tryz.prog 230 = some 8:=by kernel_rfl
theorem un235 : Tryz.prog.underlying 235 = some (.pointer 230):=by kernel_rfl
theorem sz235 : sizeT Tryz.prog 235 = some 1:=by kernel_rfl
theorem ag235 : isAggT Tryz.prog 235 = some false:=by kernel_rfl
theorem zr235 : zeroT Tryz.prog 235 = some (.nilp):=by kernel_rfl
theorem by235 : bytesT Tryz.prog 235 = some 8:=by kernel_rfl
theorem bo5 : bodied Tryz.prog 5 = true:=by kernel_rfl
theorem bo8 : bodied Tryz.prog 8 = true:=by kernel_rfl
theorem bo16 : bodied Tryz.prog 16 = true:=by kernel_rfl
theorem bo21 : bodied Tryz.prog 21 = true:=by kernel_rfl
theorem bo22 : bodied Tryz.prog 22 = true:=by kernel_rfl
theorem bo23 : bodied Tryz.prog 23 = true:=by kernel_rfl
theorem bo24 : bodied Tryz.prog 24 = true:=by kernel_rfl
theorem bo25 : bodied Tryz.prog 25 = true:=by kernel_rfl
theorem bo26 : bodied Tryz.prog 26 = true:=by kernel_rfl
theorem bo27 : bodied Tryz.prog 27 = true:=by kernel_rfl
theorem bo28 : bodied Tryz.prog 28 = true:=by kernel_rfl
theorem bo35 : bodied Tryz.prog 35 = true:=by kernel_rfl
theorem bo36 : bodied Tryz.prog 36 = true:=by kernel_rfl
theorem bo38 : bodied Tryz.prog 38 = true:=by kernel_rfl
theorem bo39 : bodied Tryz.prog 39 = true:=by kernel_rfl
theorem bo40 : bodied Tryz.prog 40 = true:=by kernel_rfl
theorem bo41 : bodied Tryz.prog 41 = true:=by kernel_rfl
theorem bo46 : bodied Tryz.prog 46 = true:=by kernel_rfl
theorem bo47 : bodied Tryz.prog 47 = true:=by kernel_rfl
theorem bo48 : bodied Tryz.prog 48 = true:=by kernel_rfl
theorem bo51 : bodied Tryz.prog 51 = true:=by kernel_rfl
theorem bo52 : bodied Tryz.prog 52 = true:=by kernel_rfl
theorem bo53 : bodied Tryz.prog 53 = true:=by kernel_rfl
theorem bo57 : bodied Tryz.prog 57 = true:=by kernel_rfl
theorem bo58 : bodied Tryz.prog 58 = true:=by kernel_rfl
theorem bo68 : bodied Tryz.prog 68 = true:=by kernel_rfl
theorem bo70 : bodied Tryz.prog 70 = true:=by kernel_rfl
theorem bo71 : bodied Tryz.prog 71 = true:=by kernel_rfl
theorem bo75 : bodied Tryz.prog 75 = true:=by kernel_rfl
theorem bo76 : bodied Tryz.prog 76 = true:=by kernel_rfl
theorem bo77 : bodied Tryz.prog 77 = true:=by kernel_rfl
theorem bo78 : bodied Tryz.prog 78 = true:=by kernel_rfl
theorem bo87 : bodied Tryz.prog 87 = true:=by kernel_rfl
theorem bo89 : bodied Tryz.prog 89 = true:=by kernel_rfl
theorem bo90 : bodied Tryz.prog 90 = true:=by kernel_rfl
theorem bo91 : bodied Tryz.prog 91 = true:=by kernel_rfl
theorem bo92 : bodied Tryz.prog 92 = true:=by kernel_rfl
theorem bo93 : bodied Tryz.prog 93 = true:=by kernel_rfl
theorem bo94 : bodied Tryz.prog 94 = true:=by kernel_rfl
theorem bo96 : bodied Tryz.prog 96 = true:=by kernel_rfl
theorem bo97 : bodied Tryz.prog 97 = true:=by kernel_rfl
theorem bo99 : bodied Tryz.prog 99 = true:=by kernel_rfl
theorem bo113 : bodied Tryz.prog 113 = true:=by kernel_rfl
theorem bo114 : bodied Tryz.prog 114 = true:=by kernel_rfl
theorem bo115 : bodied Tryz.prog 115 = true:=by kernel_rfl
theorem bo116 : bodied Tryz.prog 116 = true:=by kernel_rfl
theorem bo117 : bodied Tryz.prog 117 = true:=by kernel_rfl
theorem bo118 : bodied Tryz.prog 118 = true:=by kernel_rfl
theorem bo119 : bodied Tryz.prog 119 = true:=by kernel_rfl
theorem bo120 : bodied Tryz.prog 120 = true:=by kernel_rfl
theorem bo121 : bodied Tryz.prog 121 = true:=by kernel_rfl
theorem bo136 : bodied Tryz.prog 136 = true:=by kernel_rfl
theorem bo137 : bodied Tryz.prog 137 = true:=by kernel_rfl
theorem bo138 : bodied Tryz.prog 138 = true:=by kernel_rfl
theorem bo139 : bodied Tryz.prog 139 = true:=by kernel_rfl
theorem bo140 : bodied Tryz.prog 140 = true:=by kernel_rfl
attribute [go_sem] sz1 ag1 zr1 by1 un2 sz2 ag2 zr2 by2 un3 sz3 ag3 zr3 by3 un4 sz4 ag4 zr4 by4 un5 sz5 ag5 zr5 by5 un9 sz9 ag9 zr9 by9 un21 sz21 ag21 zr21 by21
attribute [go_sem] un23 sz23 ag23 zr23 by23 el23 sz25 ag25 zr25 by25 fd25_0 fd25_1 fd25_2 fd25_3 bd25 sz26 ag26 zr26 by26 fd26_0 fd26_1 fd26_2 fd26_3 bd26
attribute [go_sem] un30 sz30 ag30 zr30 by30 el30 sz33 ag33 by33 fd33_0 fd33_1 sz34 ag34 by34 fd34_0 fd34_1 un37 sz37 ag37 zr37 by37 el37
attribute [go_sem] un38 sz38 ag38 zr38 by38 el38 ag39 zr39 by39 ag40 zr40 by40 ag41 zr41 by41 un42 sz42 ag42 zr42 by42 sz43 ag43 zr43 by43 fd43_0 fd43_1 bd43 sz44 ag44 zr44 by44 fd44_0 fd44_1 bd44 sz45 ag45 zr45 by45 fd45_0 fd45_1
attribute [go_sem] bd45 sz46 ag46 zr46 by46 fd46_0 fd46_1 bd46 sz47 ag47 zr47 by47 fd47_0 fd47_1 bd47 sz48 ag48 zr48 by48 fd48_0 fd48_1 bd48 sz49 ag49 zr49 by49 fd49_0 fd49_1 fd49_2 bd49 sz50 ag50 zr50 by50 fd50_0 fd50_1 fd50_2 bd50 un51 sz51
attribute [go_sem] ag51 zr51 by51 sz52 ag52 zr52 by52 fd52_0 fd52_1 bd52 sz53 ag53 zr53 by53 fd53_0 fd53_1 bd53 un54 sz54 ag54 zr54 by54 bd54 ag55 zr55 by55 sz56 ag56 zr56 by56 fd56_0 fd56_1 fd56_2 bd56 sz57 ag57 zr57 by57 fd57_0 fd57_1
attribute [go_sem] fd57_2 bd57 sz58 ag58 zr58 by58 fd58_0 fd58_1 bd58 sz59 ag59 zr59 by59 fd59_0 fd59_1 bd59 un60 sz60 ag60 zr60 by60 un61 sz61 ag61 zr61 by61 bd61 un64 sz64 ag64 zr64 by64
attribute [go_sem] el64 un65 sz65 ag65 zr65 by65 un70 sz70 ag70 zr70 by70 el70 un75 sz75 ag75 zr75
attribute [go_sem] by75 el75 sz76 ag76 by76 fd76_0 fd76_1 sz77 ag77 by77 fd77_0 fd77_1 un80 sz80 ag80 zr80 by80 un81 sz81 ag81 zr81 by81 el81 sz82 ag82 zr82 by82 fd82_0 fd82_1 fd82_2 bd82 sz83 ag83 zr83 by83 fd83_0
attribute [go_sem] fd83_1 fd83_2 bd83 sz84 ag84 by84 fd84_0 fd84_1 fd84_2 sz85 ag85 by85 fd85_0 fd85_1 fd85_2 un88 sz88 ag88 zr88 by88 el88
attribute [go_sem] un94 sz94 ag94 zr94 by94 sz100 ag100 by100 fd100_0 fd100_1 fd100_2 fd100_3 fd100_4 sz101 ag101
attribute [go_sem] by101 fd101_0 fd101_1 fd101_2 fd101_3 fd101_4 sz102 ag102 zr102 by102 fd102_0 fd102_1 fd102_2 bd102 sz103 ag103 zr103 by103 fd103_0 fd103_1 fd103_2 bd103 un104 sz104 ag104 zr104 by104 el104
attribute [go_sem] un113 sz113 ag113 zr113 by113 bd113 un116 sz116 ag116 zr116 by116 un119
attribute [go_sem] sz119 ag119 zr119 by119 un121 sz121 ag121 zr121 by121 un126 sz126 ag126 zr126 by126
attribute [go_sem] un139 sz139 ag139 zr139 by139 un141
attribute [go_sem] sz141 ag141 zr141 by141
attribute [go_sem] un152 sz152 ag152 zr152 by152 un153 sz153 ag153 zr153 by153 el153 un154 sz154 ag154 zr154 by154 el154 sz155 ag155 by155 fd155_0 fd155_1 fd155_2 fd155_3 sz156 ag156 by156 fd156_0 fd156_1 fd156_2 fd156_3
attribute [go_sem] un159 sz159 ag159 zr159 by159 un160 sz160 ag160 zr160 by160 sz161 ag161 by161 fd161_0 fd161_1 fd161_2 fd161_3 sz162 ag162 by162 fd162_0 fd162_1 fd162_2 fd162_3
attribute [go_sem] un171 sz171 ag171 zr171 by171
attribute [go_sem] un180 sz180 ag180 zr180 by180 sz181 ag181 by181 fd181_0 sz182 ag182 by182 fd182_0
attribute [go_sem] un190 sz190 ag190 zr190 by190 un192 sz192 ag192 zr192 by192 un200 sz200
attribute [go_sem] ag200 zr200 by200 el200 un202 sz202 ag202 zr202 by202 bd202 sz203 ag203 zr203 by203 sz204 ag204 zr204 by204
attribute [go_sem] un209 sz209 ag209 zr209 by209 sz210 ag210 zr210 by210 fd210_0 fd210_1 bd210 sz211 ag211 zr211 by211 fd211_0 fd211_1 bd211 un212 sz212 ag212 zr212 by212 bd212
attribute [go_sem] un220 sz220 ag220 zr220 by220
attribute [go_sem] un229 sz229 ag229 zr229 by229 un230 sz230 ag230 zr230 by230 un235 sz235 ag235 zr235 by235
end Go.Proofs.Zs25
end
section
namespace Vm
open Go Go.RowKit
variable [Base]
def laysT (P : Program) : Nat → List Field → Option Nat
  | off,[]=>some off
  | off,f :: r=>if f.offset = off then laysT P (off + P.cellsOf f.type) r else none
def plain1 (P : Program) (S : List TypeId) (t : TypeId) : Bool:=
  match P.underlying t with
  | some .bool | some (.int _) | some .string=>P.cellsOf t == 1
  | some (.slice e)=>P.cellsOf t == 1 && S.contains e && decide (0 < P.cellsOf e)
  | some (.struct fs)=>(laysT P 0 fs.toList == some (P.cellsOf t)) && fs.toList.all fun f=>S.contains f.type
  | some (.array n e)=>(P.cellsOf t == n * P.cellsOf e) && S.contains e
  | _=>false
def plainS (P : Program) (S : List TypeId) : Bool:=S.all (plain1 P S)
omit [Base] in
theorem plain1_of {P : Program} {S : List TypeId} (h : plainS P S = true) {t : TypeId} (ht : S.contains t = true) : plain1 P S t = true:=
  List.all_eq_true.1 h t (by simpa using ht)
def aggT (P : Program) (t : TypeId) : Bool:=(isAggT P t).getD false
mutual
inductive Typed (P : Program) : TypeId → List D → Prop
  | bool (t : TypeId) (b : Bool) (h : P.underlying t = some .bool) : Typed P t [.bool b]
  | int (t : TypeId) (k : IntKind) (n : Int) (h : P.underlying t = some (.int k)) (hn : (Lit.int k n).wf = true) : Typed P t [.int k n]
  | str (t : TypeId) (s : List UInt8) (h : P.underlying t = some .string) (hs : s.length ≤ maxLen) : Typed P t [.str s]
  | slice (t e : TypeId) (xs : List D) (h : P.underlying t = some (.slice e)) (hl : xs.length ≤ maxLen) (hx : TypedE P e xs) : Typed P t [.sl false xs]
  | struct (t : TypeId) (fs : Array Field) (ds : List D) (h : P.underlying t = some (.struct fs)) (hf : TypedF P (fs.toList.map (·.type)) ds) : Typed P t ds
  | array (t e : TypeId) (n : Nat) (ds : List D) (h : P.underlying t = some (.array n e)) (hf : TypedF P (List.replicate n e) ds) : Typed P t ds
inductive TypedE (P : Program) : TypeId → List D → Prop
  | nil (e : TypeId) : TypedE P e []
  | agg (e : TypeId) (cs : List D) (xs : List D) (ha : aggT P e = true) (h : Typed P e cs) (hr : TypedE P e xs) : TypedE P e (.agg cs :: xs)
  | one (e : TypeId) (x : D) (xs : List D) (ha : aggT P e = false) (h : Typed P e [x]) (hr : TypedE P e xs) : TypedE P e (x :: xs)
inductive TypedF (P : Program) : List TypeId → List D → Prop
  | nil : TypedF P [] []
  | cons (t : TypeId) (ts : List TypeId) (ds es : List D) (h : Typed P t ds) (hr : TypedF P ts es) : TypedF P (t :: ts) (ds ++ es)
end
inductive TypedA (P : Program) : List TypeId → List D → Prop
  | nil : TypedA P [] []
  | agg (t : TypeId) (ts : List TypeId) (cs ds : List D) (ha : aggT P t = true) (h : Typed P t cs) (hr : TypedA P ts ds) : TypedA P (t :: ts) (.agg cs :: ds)
  | one (t : TypeId) (ts : List TypeId) (d : D) (ds : List D) (ha : aggT P t = false) (h : Typed P t [d]) (hr : TypedA P ts ds) : TypedA P (t :: ts) (d :: ds)
def im0 (w : World) : Im:=fun b o=>w.cell? ⟨b,o,none⟩
theorem rel0 (w : World) (ρ : Rho) (hB : ∀ b o v,Base.B b o = some v → im0 w b o = some v) : Rel ρ (im0 w) [] w:=
  ⟨fun b o v h=>h,fun r hr=>by simp at hr,fun r s hr=>by simp at hr,fun r hr=>by simp at hr,hB,fun r hr=>by simp at hr⟩
omit [Base] in
omit [Base] in
theorem cells?_spec {w : World} {a : Addr} {m : Nat} {cs : List Value} (h : w.cells? 0 a m = some cs) : cs.length = m ∧ ∀ j,j < m → w.cell? (a.add j) = cs[j]?:=by
  unfold World.cells? at h
  rw [if_pos (Nat.zero_le _)] at h
  have key : ∀ (l : List Nat) (cs : List Value),l.mapM (fun i=>w.cell? (a.add i)) = some cs → cs.length = l.length ∧ ∀ (j : Nat) (i : Nat),l[j]? = some i → w.cell? (a.add i) = cs[j]?:=by
    intro l
    induction l with
    | nil=>intro cs h;simp at h;subst h;simp
    | cons x l ih=>
      intro cs h
      rw [List.mapM_cons] at h
      cases hx : w.cell? (a.add x) with
      | none=>simp [hx] at h
      | some v=>
        cases hl : l.mapM (fun i=>w.cell? (a.add i)) with
        | none=>simp [hx,hl] at h
        | some vs=>
          simp [hx,hl] at h;subst h
          obtain ⟨h1,h2⟩:=ih vs hl
          refine ⟨by simp [h1],fun j i hj=>?_⟩
          cases j with
          | zero=>simp at hj;subst hj;simp [hx]
          | succ j=>simpa using h2 j i (by simpa using hj)
  obtain ⟨h1,h2⟩:=key _ _ h
  refine ⟨by simpa using h1,fun j hj=>h2 j j (by simp [hj])⟩
omit [Base] in
theorem add_add (a : Addr) (x y : Nat) (hs : a.spot = none) : (a.add x).add y = a.add (x + y):=by
  obtain ⟨b,o,s⟩:=a
  simp at hs;subst hs
  simp [add_plain,Nat.add_assoc]
omit [Base] in
theorem typed_one {P : Program} {t : TypeId} {ds : List D} (h : Typed P t ds) (ha : aggT P t = false) : ∃ d,ds = [d] ∧ (∀ cs,d ≠ .agg cs):=by
  cases h with
  | bool b h=>exact ⟨_,rfl,fun cs h=>by cases h⟩
  | int k n h hn=>exact ⟨_,rfl,fun cs h=>by cases h⟩
  | str s h hs=>exact ⟨_,rfl,fun cs h=>by cases h⟩
  | slice e xs h hl hx=>exact ⟨_,rfl,fun cs h=>by cases h⟩
  | struct=>rename_i h hf;simp [aggT,isAggT,h] at ha
  | array=>rename_i h hf;simp [aggT,isAggT,h] at ha
section
variable {H : Type} {enc : TypeId × Value → H} {P : Program} {w : World} {spare : Nat → Bool} {ρ : Rho} {n : Nat}
omit [Base] in
theorem trod_struct_eq {k : Nat} {t : TypeId} {cs : List Value} {fs : Array Field} (hu : P.underlying t = some (.struct fs)) : DataW.trod enc P w 0 spare true (k + 1) t cs =
    if cs.length = P.cellsOf t then (fs.toList.mapM fun f=>DataW.trod enc P w 0 spare true k f.type ((cs.drop f.offset).take (P.cellsOf f.type))).map fun xs=>(.agg (xs.map (·.1)),xs.flatMap (·.2)) else none:=by
  conv=>lhs;unfold DataW.trod
  rw [hu]
omit [Base] in
theorem trod_array_eq {k m : Nat} {t e : TypeId} {cs : List Value} (hu : P.underlying t = some (.array m e)) : DataW.trod enc P w 0 spare true (k + 1) t cs =
    if cs.length = P.cellsOf t then ((List.range m).mapM fun i=>DataW.trod enc P w 0 spare true k e ((cs.drop (i * P.cellsOf e)).take (P.cellsOf e))).map fun xs=>(.agg (xs.map (·.1)),xs.flatMap (·.2)) else none:=by
  conv=>lhs;unfold DataW.trod
  rw [hu]
omit [Base] in
theorem trod_typed {S : List TypeId} (hS : plainS P S = true) : ∀ (k : Nat) (t : TypeId) (cs : List Value) (x : DataW H × List MemPlace),DataW.trod enc P w 0 spare true k t cs = some x → S.contains t = true →
    ∃ ds,RepL ρ n (im0 w) cs ds ∧ Typed P t ds
  | 0,t,cs,x,h,hp=>by simp [DataW.trod] at h
  | k + 1,t,cs,x,h,hp=>by
    have ih:=fun t cs x=>trod_typed hS k t cs x
    replace hp:=plain1_of hS hp
    simp only [plain1] at hp
    cases hu : P.underlying t with
    | none=>simp [hu] at hp
    | some td=>
      rw [hu] at hp
      have h':=h
      unfold DataW.trod at h
      rw [hu] at h
      cases td <;> simp only at hp <;> try (cases hp;done)
      case bool=>
        split at h <;> rename_i heq <;> first | (cases heq;done) | skip
        all_goals (first | (cases h;done) | skip)
        rename_i b
        exact ⟨[.bool b],.cons _ _ _ _ rfl (.bool b) .nil,.bool t b hu⟩
      case int kk=>
        split at h <;> rename_i heq <;> first | (cases heq;done) | skip
        all_goals (first | (cases h;done) | skip)
        cases heq
        split at h
        · rename_i hc
          obtain ⟨rfl,hw⟩:=hc
          exact ⟨[.int _ _],.cons _ _ _ _ rfl (.int _ _) .nil,.int t _ _ hu hw⟩
        · cases h
      case string=>
        split at h <;> rename_i heq <;> first | (cases heq;done) | skip
        all_goals (first | (cases h;done) | skip)
        rename_i s
        split at h
        · rename_i hc
          have hl : s.data.toList.length = s.size:=by rw [Array.length_toList];rfl
          exact ⟨[.str s.data.toList],.cons _ _ _ _ rfl (.str s) .nil,.str t _ hu (by omega)⟩
        · cases h
      case slice e=>
        simp only [Bool.and_eq_true,decide_eq_true_eq] at hp
        obtain ⟨⟨_,hpe⟩,hpos⟩:=hp
        split at h <;> rename_i heq <;> first | (cases heq;done) | skip
        all_goals (first | (cases h;done) | skip)
        · cases heq
          exact ⟨[.sl false []],.cons _ _ _ _ rfl (.sl0 _ _ _ (by simp)) .nil,.slice t e [] hu (Nat.zero_le _) (.nil e)⟩
        · rename_i a len cap
          cases heq
          split at h
          · rename_i hc
            obtain ⟨_,hlc,hcm⟩:=hc
            dsimp only at h
            cases hm : (List.range len).mapM (fun i=>(w.cells? 0 (a.add (i * P.cellsOf e)) (P.cellsOf e)).bind (DataW.trod enc P w 0 spare true k e)) with
            | none=>rw [hm] at h;simp at h
            | some elems=>
              -- element by element
              have key : ∀ (l : List Nat) (el : List (DataW H × List MemPlace)), l.mapM (fun i => (w.cells? 0 (a.add (i * P.cellsOf e)) (P.cellsOf e)).bind (DataW.trod enc P w 0 spare true k e)) = some el →
                  ∀ s,(∀ (j i : Nat),l[j]? = some i → i = s + j) → (l ≠ [] → a.spot = none) →
                  ∃ xs vs,xs.length = l.length ∧ TypedE P e xs ∧ RepL ρ n (im0 w) vs (flatC xs) ∧ (∀ y,y ∈ xs → y.cells.length = P.cellsOf e) ∧ ∀ q,q < vs.length → w.cell? (a.add (s * P.cellsOf e + q)) = vs[q]?:=by
                intro l
                induction l with
                | nil=>intro el _ s _ _;exact ⟨[],[],rfl,.nil e,.nil,by simp,by simp⟩
                | cons i l ihl=>
                  intro el hel s hs hsp
                  rw [List.mapM_cons] at hel
                  have hi : i = s:=by simpa using hs 0 i rfl
                  subst hi
                  cases hcs : w.cells? 0 (a.add (i * P.cellsOf e)) (P.cellsOf e) with
                  | none=>simp [hcs] at hel
                  | some ci=>
                    cases htr : DataW.trod enc P w 0 spare true k e ci with
                    | none=>simp [hcs,htr] at hel
                    | some xi=>
                      cases hrest : l.mapM (fun i=>(w.cells? 0 (a.add (i * P.cellsOf e)) (P.cellsOf e)).bind (DataW.trod enc P w 0 spare true k e)) with
                      | none=>simp [hcs,htr,hrest] at hel
                      | some er=>
                        obtain ⟨ds,hds,hty⟩:=ih e ci xi htr hpe
                        obtain ⟨hcl,hcell⟩:=cells?_spec hcs
                        have hsp':=hsp (by simp)
                        obtain ⟨xs,vs,h1,h2,h3,h4,h5⟩:=ihl er hrest (i + 1) (fun j i' hj=>by have:=hs (j + 1) i' (by simpa using hj);omega) (fun _=>hsp')
                        have hdl : ds.length = P.cellsOf e:=by rw [← hds.length,hcl]
                        have fin : ∀ x : D,x.cells = ds → TypedE P e (x :: xs) → ∃ xs vs,xs.length = (i :: l).length ∧ TypedE P e xs ∧ RepL ρ n (im0 w) vs (flatC xs) ∧ (∀ y,y ∈ xs → y.cells.length = P.cellsOf e) ∧ ∀ q,q < vs.length → w.cell? (a.add (i * P.cellsOf e + q)) = vs[q]?:=by
                          intro x hxc hte
                          refine ⟨x :: xs,ci ++ vs,by simp [h1],hte,?_,?_,?_⟩
                          · simp only [flatC,List.flatMap_cons,hxc];exact hds.append h3
                          · intro y hy
                            rcases List.mem_cons.1 hy with rfl | hy
                            · rw [hxc];exact hdl
                            · exact h4 y hy
                          · intro q hq
                            rcases Nat.lt_or_ge q ci.length with hlt | hge
                            · rw [List.getElem?_append_left hlt,← hcell q (by omega),add_add a _ _ hsp']
                            · rw [List.getElem?_append_right hge,← h5 (q - ci.length) (by simp at hq;omega)]
                              congr 2
                              rw [Nat.add_mul];omega
                        cases ha : aggT P e with
                        | true=>exact fin (.agg ds) rfl (.agg e ds xs ha hty h2)
                        | false=>
                          obtain ⟨d,rfl,hna⟩:=typed_one hty ha
                          exact fin d (by cases d <;> first | rfl | exact (hna _ rfl).elim) (.one e d xs ha hty h2)
              have hspot : List.range len ≠ [] → a.spot = none:=by
                intro hne
                have hl0 : 0 < len:=by cases len with
                  | zero=>simp at hne
                  | succ _=>omega
                obtain ⟨l',hl'⟩ : ∃ l',List.range len = 0 :: l':=⟨(List.range len).tail,by cases len with
                  | zero=>omega
                  | succ m=>simp [List.range_succ_eq_map]⟩
                rw [hl',List.mapM_cons] at hm
                cases hcs : w.cells? 0 (a.add (0 * P.cellsOf e)) (P.cellsOf e) with
                | none=>simp only [hcs] at hm;simp at hm
                | some ci=>
                  obtain ⟨hcl,hcell⟩:=cells?_spec hcs
                  have h0:=hcell 0 hpos
                  rw [List.getElem?_eq_getElem (by omega)] at h0
                  have e1 : (a.add (0 * P.cellsOf e)).add 0 = a:=by simp [Addr.add]
                  rw [e1] at h0
                  unfold World.cell? at h0
                  split at h0
                  · split at h0
                    · cases h0
                    · rename_i hs;simpa using hs
                  · cases h0
              obtain ⟨xs,vs,h1,h2,h3,h4,h5⟩:=key (List.range len) elems hm 0 (fun j i hj=>by
                rw [List.getElem?_range] at hj
                · simp at hj;omega
                · rcases Nat.lt_or_ge j len with h | h
                  · exact h
                  · rw [List.getElem?_eq_none (by simpa using h)] at hj;cases hj) hspot
              have hxl : xs.length = len:=by simpa using h1
              cases hxs : xs with
              | nil=>
                subst hxs
                simp at hxl;subst hxl
                exact ⟨[.sl false []],.cons _ _ _ _ rfl (.sl0 _ _ _ (by simp)) .nil,.slice t e [] hu (Nat.zero_le _) (.nil e)⟩
              | cons x xr=>
                have hsn:=hspot (by rw [hxs] at hxl;simp at hxl;intro h0;have:=congrArg List.length h0;simp at this;omega)
                obtain ⟨b,o,sp⟩:=a
                simp at hsn;subst hsn
                refine ⟨[.sl false xs],.cons _ _ _ _ rfl ?_ .nil,.slice t e xs hu (by omega) h2⟩
                rw [← hxl]
                refine .sl b o (P.cellsOf e) cap false xs vs h4 (fun q hq=>?_) h3 (by simp) (by omega)
                have:=h5 q hq
                rw [add_plain] at this
                simpa [im0] using this
          · cases h
      case struct fs=>
        simp only [Bool.and_eq_true,beq_iff_eq,List.all_eq_true] at hp
        obtain ⟨hlay,hall⟩:=hp
        have hbody : cs.length = P.cellsOf t ∧ ∃ xs,(fs.toList.mapM fun f=>DataW.trod enc P w 0 spare true k f.type ((cs.drop f.offset).take (P.cellsOf f.type))) = some xs:=by
          rw [trod_struct_eq hu] at h'
          split at h'
          · rename_i hc
            cases hm : (fs.toList.mapM fun f=>DataW.trod enc P w 0 spare true k f.type ((cs.drop f.offset).take (P.cellsOf f.type))) with
            | none=>simp [hm] at h'
            | some xs=>exact ⟨hc,xs,rfl⟩
          · cases h'
        obtain ⟨hcl,xs,hm⟩:=hbody
        have key : ∀ (l : List Field) (off : Nat) (xs : List (DataW H × List MemPlace)),laysT P off l = some (P.cellsOf t) → (∀ f,f ∈ l → S.contains f.type = true) →
            (l.mapM fun f=>DataW.trod enc P w 0 spare true k f.type ((cs.drop f.offset).take (P.cellsOf f.type))) = some xs → ∃ ds,RepL ρ n (im0 w) (cs.drop off) ds ∧ TypedF P (l.map (·.type)) ds:=by
          intro l
          induction l with
          | nil=>
            intro off xs hl _ _
            simp [laysT] at hl
            rw [List.drop_eq_nil_of_le (by omega)]
            exact ⟨[],.nil,.nil⟩
          | cons f l ihl=>
            intro off xs hl hpl hml
            simp only [laysT] at hl
            split at hl
            · rename_i hoff
              rw [List.mapM_cons] at hml
              cases htr : DataW.trod enc P w 0 spare true k f.type ((cs.drop f.offset).take (P.cellsOf f.type)) with
              | none=>simp [htr] at hml
              | some x0=>
                cases hrest : (l.mapM fun f=>DataW.trod enc P w 0 spare true k f.type ((cs.drop f.offset).take (P.cellsOf f.type))) with
                | none=>simp [htr,hrest] at hml
                | some xr=>
                  obtain ⟨ds,h1,h2⟩:=ih f.type _ _ htr (hpl f (by simp))
                  obtain ⟨es,h3,h4⟩:=ihl (off + P.cellsOf f.type) xr hl (fun g hg=>hpl g (by simp [hg])) hrest
                  refine ⟨ds ++ es,?_,.cons _ _ _ _ h2 h4⟩
                  have e1 : cs.drop off = (cs.drop f.offset).take (P.cellsOf f.type) ++ cs.drop (off + P.cellsOf f.type):=by
                    rw [hoff,← List.drop_drop,List.take_append_drop]
                  rw [e1]
                  exact h1.append h3
            · cases hl
        obtain ⟨ds,h1,h2⟩:=key fs.toList 0 xs hlay hall hm
        exact ⟨ds,by simpa using h1,.struct t fs ds hu h2⟩
      case array m e=>
        simp only [Bool.and_eq_true,beq_iff_eq] at hp
        obtain ⟨hsz,hpe⟩:=hp
        have hbody : cs.length = P.cellsOf t ∧ ∃ xs,((List.range m).mapM fun i=>DataW.trod enc P w 0 spare true k e ((cs.drop (i * P.cellsOf e)).take (P.cellsOf e))) = some xs:=by
          rw [trod_array_eq hu] at h'
          split at h'
          · rename_i hc
            cases hm : ((List.range m).mapM fun i=>DataW.trod enc P w 0 spare true k e ((cs.drop (i * P.cellsOf e)).take (P.cellsOf e))) with
            | none=>simp [hm] at h'
            | some xs=>exact ⟨hc,xs,rfl⟩
          · cases h'
        obtain ⟨hcl,xs,hm⟩:=hbody
        have key : ∀ (r s : Nat) (xs : List (DataW H × List MemPlace)),s + r = m →
            ((List.range' s r).mapM fun i=>DataW.trod enc P w 0 spare true k e ((cs.drop (i * P.cellsOf e)).take (P.cellsOf e))) = some xs → ∃ ds,RepL ρ n (im0 w) (cs.drop (s * P.cellsOf e)) ds ∧ TypedF P (List.replicate r e) ds:=by
          intro r
          induction r with
          | zero=>
            intro s xs hs _
            rw [List.drop_eq_nil_of_le (by rw [hcl, hsz]; have : s = m := by omega
                                           subst this;exact Nat.le_refl _)]
            exact ⟨[],.nil,.nil⟩
          | succ r ihr=>
            intro s xs hs hml
            rw [List.range'_succ,List.mapM_cons] at hml
            cases htr : DataW.trod enc P w 0 spare true k e ((cs.drop (s * P.cellsOf e)).take (P.cellsOf e)) with
            | none=>simp [htr] at hml
            | some x0=>
              cases hrest : ((List.range' (s + 1) r).mapM fun i=>DataW.trod enc P w 0 spare true k e ((cs.drop (i * P.cellsOf e)).take (P.cellsOf e))) with
              | none=>simp [htr,hrest] at hml
              | some xr=>
                obtain ⟨ds,h1,h2⟩:=ih e _ _ htr hpe
                obtain ⟨es,h3,h4⟩:=ihr (s + 1) xr (by omega) hrest
                refine ⟨ds ++ es,?_,.cons _ _ _ _ h2 h4⟩
                have e1 : cs.drop (s * P.cellsOf e) = (cs.drop (s * P.cellsOf e)).take (P.cellsOf e) ++ cs.drop ((s + 1) * P.cellsOf e):=by
                  rw [Nat.add_mul,Nat.one_mul,← List.drop_drop,List.take_append_drop]
                rw [e1]
                exact h1.append h3
        rw [List.range_eq_range'] at hm
        obtain ⟨ds,h1,h2⟩:=key m 0 xs (by omega) hm
        exact ⟨ds,by simpa using h1,.array t e m ds hu h2⟩
end
end Vm
end
section
namespace Vm
open Go Go.RowKit
section
variable {H : Type} {enc : TypeId × Value → H} {P : Program} {w : World}
theorem value_typed {S : List TypeId} (hS : plainS P S = true) {t : TypeId} {v : Value} {d : DataW H} {ps : List MemPlace} {ρ : Rho} {n : Nat} (h : DataW.Trod enc P w 0 (fun _ => true) true t v d ps) (hp : S.contains t = true) {base : Nat} (hv : Value.okWide P w .any base t v) :
    ∃ x,Rep ρ n (im0 w) v x ∧ ((aggT P t = true ∧ ∃ cs,x = .agg cs ∧ Typed P t cs) ∨ (aggT P t = false ∧ Typed P t [x])):=by
  obtain ⟨fuel,hf⟩:=h
  obtain ⟨ds,hds,hty⟩:=trod_typed (ρ:=ρ) (n:=n) hS fuel t _ _ hf hp
  cases ha : aggT P t with
  | true=>
    have : ∃ cs,v = .agg cs:=by
      unfold Value.okWide at hv
      unfold aggT isAggT at ha
      cases hu : P.underlying t with
      | none=>simp [hu] at ha
      | some td=>
        cases td <;> simp [hu] at ha
        all_goals (simp only [hu] at hv;obtain ⟨cs,rfl,_⟩:=hv;exact ⟨cs,rfl⟩)
    obtain ⟨⟨cs⟩,rfl⟩:=this
    exact ⟨.agg ds,.agg cs ds (by simpa [Value.cells] using hds),.inl ⟨rfl,ds,rfl,hty⟩⟩
  | false=>
    obtain ⟨x,rfl,hna⟩:=typed_one hty ha
    have hcell : v.cells.toList = [v]:=by
      have : ∀ cs,v ≠ .agg cs:=by
        rintro cs rfl
        have hp1:=plain1_of hS hp
        unfold plain1 at hp1
        unfold Value.okWide at hv
        cases hu : P.underlying t with
        | none=>simp [hu] at hp1
        | some td=>
          cases td <;> simp [hu] at hp1 <;> simp only [hu] at hv <;> first
            | (simp [Cell.okWide,Cell.ok,hu] at hv;done)
            | (simp [aggT,isAggT,hu] at ha;done)
      cases v <;> first | rfl | exact (this _ rfl).elim
    rw [hcell] at hds
    cases hds with
    | cons _ _ _ _ _ hr _=>exact ⟨x,hr,.inr ⟨rfl,hty⟩⟩
theorem args_typed {S : List TypeId} (hS : plainS P S = true) {ρ : Rho} {n : Nat} : ∀ {ts : List TypeId} {vs : List Value} {ds : List (DataW H)} {ps : List MemPlace}, DataW.TrodAll enc P w 0 (fun _ => true) true ts vs ds ps →
    (∀ t ∈ ts,S.contains t = true) → (∀ (j : Nat) t v,ts[j]? = some t → vs[j]? = some v → ∃ base,Value.okWide P w .any base t v) → ∃ Ds,RepA ρ n (im0 w) vs Ds ∧ TypedA P ts Ds
  | [],[],[],ps,h,_,_=>⟨[],.nil,.nil⟩
  | t :: ts,v :: vs,d :: ds,ps,h,hp,hv=>by
    obtain ⟨p,q,h1,h2,_⟩:=h
    obtain ⟨base,hv0⟩:=hv 0 t v rfl rfl
    obtain ⟨x,hx,hc⟩:=value_typed hS (ρ:=ρ) (n:=n) h1 (hp t (by simp)) hv0
    obtain ⟨Ds,g1,g2⟩:=args_typed hS (ρ:=ρ) (n:=n) h2 (fun t ht=>hp t (by simp [ht])) (fun j t v a b=>hv (j + 1) t v (by simpa using a) (by simpa using b))
    refine ⟨x :: Ds,.cons _ _ _ _ hx g1,?_⟩
    rcases hc with ⟨ha,cs,rfl,hty⟩ | ⟨ha,hty⟩
    · exact .agg t ts cs Ds ha hty g2
    · exact .one t ts x Ds ha hty g2
  | [],_ :: _,_,_,h,_,_=>by simp [DataW.TrodAll] at h
  | [],[],_ :: _,_,h,_,_=>by simp [DataW.TrodAll] at h
  | _ :: _,[],_,_,h,_,_=>by simp [DataW.TrodAll] at h
  | _ :: _,_ :: _,[],_,h,_,_=>by simp [DataW.TrodAll] at h
theorem trodAll_stays {W W' : World} (hl : laidOutB P = true) (hb : Below W.heap.size W W') : ∀ {ts : List TypeId} {vs : List Value} {ds : List (DataW H)} {ps : List MemPlace}, DataW.TrodAll enc P W 0 (fun _ => true) true ts vs ds ps →
    (∀ t ∈ ts,P.readableRec t = true ∧ t < P.types.size) → (∀ x ∈ ps,x.block < W.heap.size) → DataW.TrodAll enc P W' 0 (fun b=>decide (b < W.heap.size)) true ts vs ds ps
  | [],[],[],ps,h,_,_=>h
  | t :: ts,v :: vs,d :: ds,ps,h,ht,hlt=>by
    obtain ⟨p,q,h1,h2,rfl⟩:=h
    exact ⟨p,q,Below.trod hl (ht t (by simp)).1 (ht t (by simp)).2 h1 hb (fun x hx=>hlt x (by simp [hx])),trodAll_stays hl hb h2 (fun t h=>ht t (by simp [h])) (fun x hx=>hlt x (by simp [hx])),rfl⟩
  | [],_ :: _,_,_,h,_,_=>by simp [DataW.TrodAll] at h
  | [],[],_ :: _,_,h,_,_=>by simp [DataW.TrodAll] at h
  | _ :: _,[],_,_,h,_,_=>by simp [DataW.TrodAll] at h
  | _ :: _,_ :: _,[],_,h,_,_=>by simp [DataW.TrodAll] at h
theorem Tr.below {ρ ρ' : Rho} {H' : Heap} {W W' : World} (h : Tr ρ [] W ρ' H' W') : Below W.heap.size W W':=
  ⟨h.os,h.tape,h.output,h.size,fun k hk=>h.keep k hk (fun r hr=>by simp at hr)⟩
end
theorem law_contract {C : Checked} {f : FuncId} {fn : Func} {s : ChangeSpec} {H : Type} {enc : TypeId × Value → H} {A : Ann} {S : List TypeId} {tb : TypeId} (hvars : s.vars = []) (hl : laidOutB C.prog = true)
    (hts : ∀ t ∈ fn.params.toList,C.prog.readableRec t = true ∧ t < C.prog.types.size) (hS : plainS C.prog S = true) (hpl : (fn.params.toList.all fun t=>S.contains t) = true)
    (hbod : bodied C.prog f = true) (hres : fn.resultTypes = #[tb]) (htb : C.prog.underlying tb = some .bool)
    (hs : ∀ ds : List (DataW H),ds.length = fn.params.size → (s.fn H ds).results = [.lit (.bool true)] ∧ (s.fn H ds).args = ds ∧ (s.fn H ds).vars = [])
    (hrun : ∀ Ds,TypedA C.prog fn.params.toList Ds → ∃ k H',runF C.prog A k f Ds [] = some (.ok (.bool true) H')) :
    ∀ (W : World) (base : Nat) (args : Array Value) (ds gs : List (DataW H)) (before : List MemPlace),
      (∀ (j : Nat) t v,fn.params[j]? = some t → args[j]? = some v → Value.okWide C.prog W .any base t v) →
      DataW.Whole enc C.prog fn.params.toList s.vars false W args.toList ds gs before → @PrimOk ⟨im0 W⟩ C.prog A →
      Calls C.prog f args W fun e W'=>∃ v,e = .returned v ∧ s.post enc C.prog fn false true false false W args v W':=by
  intro W base args ds gs before hval hW hA
  letI : Base:=⟨im0 W⟩
  have hW':=hW
  obtain ⟨p,q,hAll,hV,hps,hfz,hnd⟩:=hW
  rw [hvars] at hV
  have hgq : gs = [] ∧ q = []:=by
    cases gs with
    | nil=>exact ⟨rfl,by simpa [DataW.TrodVars] using hV⟩
    | cons g gs=>simp [DataW.TrodVars] at hV
  obtain ⟨rfl,rfl⟩:=hgq
  obtain ⟨Ds,hrep,hty⟩:=args_typed hS (ρ:=fun _=>default) (n:=0) hAll (fun t ht=>List.all_eq_true.1 hpl t ht) (fun j t v a b=>⟨base,hval j t v (by simpa using a) (by simpa using b)⟩)
  obtain ⟨k,H',hk⟩:=hrun Ds hty
  have hc:=(runF_ok C.mixed hA k f Ds [] _ hk (fun _=>default) (im0 W) W args.toList (rel0 W _ fun _ _ _ h=>h) hrep).calls hbod
  refine hc.mono fun e W' hout=>?_
  cases hout with
  | ok ρ' im' _ _ v _ hm hv=>
    have hvb:=hv.bool_inv
    subst hvb
    have hb : Below W.heap.size W W':=hm.tr.below
    have hlen : ds.length = fn.params.size:=by
      have : ∀ {ts : List TypeId} {vs : List Value} {ds : List (DataW H)} {ps : List MemPlace},DataW.TrodAll enc C.prog W 0 (fun _=>true) true ts vs ds ps → ds.length = ts.length:=by
        intro ts
        induction ts with
        | nil=>intro vs ds ps h;cases vs <;> cases ds <;> simp [DataW.TrodAll] at h ⊢
        | cons t ts ih=>
          intro vs ds ps h
          cases vs <;> cases ds <;> simp [DataW.TrodAll] at h ⊢
          obtain ⟨p,_,q,h2,_⟩:=h
          exact ih h2
      simpa using this hAll
    obtain ⟨h1,h2,h3⟩:=hs ds hlen
    refine ⟨_,rfl,ds,[],before,[],p,[],hW',?_,?_,?_,?_,fun h=>by cases h⟩
    · rw [List.append_nil,h1,hres]
      refine ⟨[],[],⟨1,?_⟩,rfl,rfl⟩
      simp [DataW.trod,htb,Value.cells,Value.resultList]
    · rw [List.append_nil,h2]
      refine trodAll_stays hl hb hAll hts fun x hx=>?_
      have:=hW'.lt x (by rw [hps];simp [hx])
      simpa using this
    · rw [List.append_nil,h3,hvars];rfl
    · exact hb.frame _
end Vm
end
section
namespace Vm
open Go
section
variable {P : Program}
theorem typed_int {t : TypeId} {k : IntKind} {ds : List D} (hu : P.underlying t = some (.int k)) (h : Typed P t ds) : ∃ n,ds = [.int k n] ∧ (Lit.int k n).wf = true:=by
  cases h with
  | bool _ b h=>rw [hu] at h;cases h
  | int _ k1 n h hn=>rw [hu] at h;cases h;exact ⟨n,rfl,hn⟩
  | str _ s h hs=>rw [hu] at h;cases h
  | slice _ e xs h hl hx=>rw [hu] at h;cases h
  | struct _ fs ds h hf=>rw [hu] at h;cases h
  | array _ e n ds h hf=>rw [hu] at h;cases h
theorem typed_slice {t e : TypeId} {ds : List D} (hu : P.underlying t = some (.slice e)) (h : Typed P t ds) : ∃ xs,ds = [.sl false xs] ∧ xs.length ≤ maxLen ∧ TypedE P e xs:=by
  cases h with
  | bool _ b h=>rw [hu] at h;cases h
  | int _ k1 n h hn=>rw [hu] at h;cases h
  | str _ s h hs=>rw [hu] at h;cases h
  | slice _ e xs h hl hx=>rw [hu] at h;cases h;exact ⟨xs,rfl,hl,hx⟩
  | struct _ fs ds h hf=>rw [hu] at h;cases h
  | array _ e n ds h hf=>rw [hu] at h;cases h
theorem typedA_one {t : TypeId} {ts : List TypeId} {ds : List D} (ha : aggT P t = false) (h : TypedA P (t :: ts) ds) : ∃ d r,ds = d :: r ∧ Typed P t [d] ∧ TypedA P ts r:=by
  cases h with
  | agg _ _ cs _ ha' h hr=>rw [ha] at ha';cases ha'
  | one _ _ d ds ha' h hr=>exact ⟨d,ds,rfl,h,hr⟩
theorem typedA_nil {ds : List D} (h : TypedA P [] ds) : ds = []:=by cases h;rfl
end
end Vm
end
section
-- use:
namespace Go.Proofs.W
open Go Vm Go.Proofs.Zs25
theorem strip1 {a : D} (h : strip a = some a) : stripL [a] = some [a]:=by simp [stripL,h]
theorem strip2 {a b : D} (h : strip a = some a) (k : strip b = some b) : stripL [a,b] = some [a,b]:=by simp [stripL,h,k]
end Go.Proofs.W
end
section
namespace Vm
open Go
section
variable {P : Program} {A : Ann} {N : Nat}
def WpS (P : Program) (A : Ann) (N : Nat) (c : Code) (e : Env) (H : Heap) (m : Md) (Q : Ex → Env → Heap → Md → Prop) : Prop:=
  ∃ k s m',runS P A N (runC P A (runF P A k) k N) c e H m = some (s,m') ∧ Q s.ex s.e s.H m'
def noRec : Code → Bool
  | .seq a b=>noRec a && noRec b
  | .cond _ a b=>noRec a && noRec b
  | .region _ ops draw=>!(decide (draw = false) && ops.toList.any fun o=>recoverC o.op)
  | _=>true
theorem runS_le {k k' : Nat} (h : k ≤ k') {c : Code} {e : Env} {H : Heap} {m : Md} {x : St × Md} (hr : runS P A N (runC P A (runF P A k) k N) c e H m = some x) : runS P A N (runC P A (runF P A k') k' N) c e H m = some x:=
  runS_mono (fun c e H s hs=>runRun_mono h N c e H s hs) hr
theorem runS_calm {k : Nat} {m : Md} : ∀ {c : Code} {e : Env} {H : Heap} {s : St},noRec c = true → runC P A (runF P A k) k N c e H = some s → runS P A N (runC P A (runF P A k) k N) c e H m = some (s,m):=by
  intro c
  induction c with
  | seq a b iha ihb=>
    intro e H s hc h
    simp only [noRec,Bool.and_eq_true] at hc
    simp only [runC] at h
    simp only [runS]
    cases ha : runC P A (runF P A k) k N a e H with
    | none=>rw [ha] at h;cases h
    | some s1=>
      rw [iha hc.1 ha]
      rw [ha] at h
      obtain ⟨x,e1,H1⟩:=s1
      cases x with
      | norm=>simp only [Option.bind_some] at h ⊢;exact ihb hc.2 h
      | _=>simp only [Option.bind_some] at h ⊢;first | (cases h;rfl) | (simp at h;subst h;rfl)
  | cond o a b iha ihb=>
    intro e H s hc h
    simp only [noRec,Bool.and_eq_true] at hc
    simp only [runC] at h
    simp only [runS]
    split at h
    · exact iha hc.1 h
    · exact ihb hc.2 h
    · cases h
  | region id ops draw=>
    intro e H s hc h
    simp only [noRec,Bool.not_eq_true',Bool.and_eq_false_iff,decide_eq_false_iff_not] at hc
    simp only [runS]
    rw [if_neg (fun g=>hc.elim (fun hc=>hc g.1) (fun hc=>absurd (hc.symm.trans g.2) (by decide))),h]
    rfl
  | _=>intro e H s hc h;simp only [runS];rw [h];rfl
theorem wpS_calm {c : Code} {e : Env} {H : Heap} {m : Md} {Q : Ex → Env → Heap → Md → Prop} (hc : noRec c = true) (h : WpB P A N c e H (fun x e H=>Q x e H m)) : WpS P A N c e H m Q:=by
  unfold WpB at h
  obtain ⟨k,s,h1,h2⟩:=h
  exact ⟨k,s,m,runS_calm hc h1,h2⟩
def LvQ (P : Program) (A : Ann) (rs : List ResultVar) (K Kp : D → Heap → Prop) (e : Env) (l : List Dfr) (m : Md) (H : Heap) : Prop:=
  ∃ k r,leaveD P A (fun N=>runC P A (runF P A k) k N) rs e l m H = some r ∧ (match r with | .ok d H'=>K d H' | .pan d H'=>Kp d H')
variable {rs : List ResultVar} {K Kp : D → Heap → Prop} {e : Env} {H : Heap} {l : List Dfr}
theorem leaveQ_norm (hd : e.df = some l) (h : LvQ P A rs K Kp e l .ret H) : LeaveQ P A rs K Kp .norm e H:=by
  obtain ⟨k,r,h1,h2⟩:=h
  exact ⟨l,k,r,hd,h1,h2⟩
theorem lvQ_ret {ds : List D} (hr : resD P e H rs = some ds) (h : K (oneD ds) H) : LvQ P A rs K Kp e [] .ret H:=
  ⟨0,.ok (oneD ds) H,by simp [leaveD,hr],h⟩
theorem lvQ_call {f : FuncId} {fn : Func} {c : Code} {n : Nat} {args : List D} {m : Md} (hf : P.funcs[f]? = some fn) (hb : fn.body = some c) (hn : (fn.name == "runtime.NumGoroutine") = false) (hN : fn.ntmps = n) (hr : fn.results.toList = []) (ha : Nat.ble args.length n = true)
    (h : WpS P A n c (ofArgs args) H m (fun x e2 H2 m2=>(x = .norm ∨ x = .ret) ∧ e2.df = some [] ∧ LvQ P A rs K Kp e l m2.settle H2)) : LvQ P A rs K Kp e (.call f args :: l) m H:=by
  subst hN
  obtain ⟨k,⟨x,e2,H2⟩,m2,h1,hx,hdf,k2,r,h2,h3⟩:=h
  have ha':=Nat.le_of_ble_eq_true ha
  have hcond : ¬ ((fn.name == "runtime.NumGoroutine" || decide (args.length > fn.ntmps)) = true):=by simp [hn];omega
  refine ⟨max k k2,r,?_,h3⟩
  have q1:=runS_le (Nat.le_max_left k k2) h1
  have q2:=leaveD_mono (fun N c e H s hs=>runRun_mono (P:=P) (A:=A) (Nat.le_max_right k k2) N c e H s hs) h2
  have hl : lastD P A (fun N=>runC P A (runF P A (max k k2)) (max k k2) N) f args m H = some (m2.settle,H2):=by
    simp only at hx hdf
    have hno : noDf e2.df = true:=by rw [hdf];rfl
    simp only [lastD,hf,hb,if_neg hcond]
    rw [q1]
    simp only [Option.bind_some]
    rcases hx with rfl | rfl <;> simp [hno,hr,resD]
  have : leaveD P A (fun N=>runC P A (runF P A (max k k2)) (max k k2) N) rs e (.call f args :: l) m H = (lastD P A (fun N=>runC P A (runF P A (max k k2)) (max k k2) N) f args m H).bind fun (m,H)=>leaveD P A (fun N=>runC P A (runF P A (max k k2)) (max k k2) N) rs e l m H:=by cases m <;> rfl
  rw [this,hl]
  exact q2
def pushF (P : Program) (e : Env) : Option (List Dfr) → Option (List D) → Option D → Option Env
  | some l,some args,some (.fn g cs)=>if bodied P g then some ⟨e.f,some (.call g (args ++ cs) :: l)⟩ else none
  | _,_,_=>none
theorem pushD_eq {P : Program} {e : Env} {f : Operand} {args : Array Operand} {ts : Array TypeId} : pushD P e ⟨.value f,args,ts⟩ = pushF P e e.df (evalOs e args.toList) (evalO e f):=by
  unfold pushD
  cases h1 : e.df with
  | none=>rfl
  | some l=>
    simp only [Option.bind_some]
    cases h2 : evalOs e args.toList with
    | none=>rfl
    | some as1=>
      simp only [Option.bind_some]
      cases h3 : evalO e f with
      | none=>rfl
      | some d=>cases d <;> rfl
theorem pushF_fn {P : Program} {e : Env} {l : List Dfr} {args cs : List D} {g : FuncId} : pushF P e (some l) (some args) (some (.fn g cs)) = if bodied P g then some ⟨e.f,some (.call g (args ++ cs) :: l)⟩ else none:=rfl
attribute [go_sem] pushD_eq pushF_fn
end
end Vm
end
section
namespace Vm
open Go
section
variable {P : Program} {A : Ann} {N : Nat} {S : List (Option Nat)} {o : Oper} {rest : List Oper} {e : Env} {H : Heap} {K : Env → Heap → Prop} {Kp : D → Env → Heap → Prop}
theorem stepsB_both {b : Bool} {dc : Option Call} (h1 : b = true → stepsB (some true) dc P A N S o rest e H K Kp) (h2 : b = false → stepsB (some false) dc P A N S o rest e H K Kp) : stepsB (some b) dc P A N S o rest e H K Kp:=by
  cases b
  · exact h2 rfl
  · exact h1 rfl
theorem stepsXB_both {b : Bool} {prs : List (List Nat × List Nat)} (h1 : b = true → stepsXB (some true) P A N S prs o rest e H K) (h2 : b = false → stepsXB (some false) P A N S prs o rest e H K) : stepsXB (some b) P A N S prs o rest e H K:=by
  cases b
  · exact h2 rfl
  · exact h1 rfl
end
end Vm
namespace Vm
open Go
def vecO (o : Ob) (n : Nat) : Bool:=
  match o with
  | .arr (x :: _) | .fro (x :: _)=>x.cells.length == n
  | _=>false
theorem vecSize_o {H : Heap} {r n : Nat} : vecSize H r n = vecO (hget H r) n:=by
  unfold vecSize vecO;rfl
theorem vecO_arr {xs : List D} {n : Nat} (h : xs ≠ []) (hs : headSize n xs = true) : vecO (.arr xs) n = true:=by
  cases xs with
  | nil=>exact absurd rfl h
  | cons x l=>exact hs
end Vm
end
section
namespace Vm
open Go
def cntF (q : Nat → Bool) : Nat → Nat
  | 0=>0
  | k + 1=>cntF q k + if q k then 0 else 1
theorem cntF_le {q q' : Nat → Bool} : ∀ {k : Nat},(∀ s,s < k → q s = true → q' s = true) → cntF q' k ≤ cntF q k
  | 0,_=>Nat.le_refl _
  | k + 1,h=>by
    have h1:=cntF_le (k:=k) fun s hs=>h s (by omega)
    have h2:=h k (by omega)
    simp only [cntF]
    cases hq : q k
    · cases q' k <;> simp <;> omega
    · rw [h2 hq];simp;exact h1
def stripS (l : List D) : Option (List D):=stripL l
def consO (d : Option D) (l : Option (List D)) : Option (List D):=d.bind fun d=>l.map (d :: ·)
theorem consO_some {d : D} {l : List D} : consO (some d) (some l) = some (d :: l):=rfl
theorem stripS_nil : stripS [] = some []:=rfl
theorem stripS_cons {d : D} {l : List D} : stripS (d :: l) = consO (strip d) (stripS l):=by
  unfold stripS consO
  rw [stripL]
def fzM (b : Prop) [Decidable b] (ys : Option (List D)) (H : Heap) : Option R:=fzN b ys H
theorem fzN_S {b : Prop} [Decidable b] {xs : List D} {H : Heap} : fzN b (stripL xs) H = fzM b (stripS xs) H:=rfl
theorem fzM_true {ys : List D} {H : Heap} : fzM True (some ys) H = some (.ok (.sl false ys) H):=rfl
theorem fzM_eq {n : Nat} {ys : List D} {H : Heap} : fzM (n = n) (some ys) H = some (.ok (.sl false ys) H):=by simp [fzM,fzN]
theorem strip_intR {k : IntKind} {n : Int} : strip (.int k n) = some (.int k n):=rfl
theorem strip_boolR {b : Bool} : strip (.bool b) = some (.bool b):=rfl
theorem strip_strR {s : List UInt8} : strip (.str s) = some (.str s):=rfl
attribute [go_sem] consO_some stripS_nil stripS_cons fzN_S fzM_true fzM_eq strip_intR strip_boolR strip_strR
theorem gs {p : Prop} (h : p:=by simp (maxSteps:=1000000) (dsimp:=false) (disch:=omega) only [go_sem,simprocAttr, *]) : p:=h
section
variable {P : Program} {A : Ann} {N : Nat} {e : Env} {H : Heap} {Q : Ex → Env → Heap → Prop}
theorem wz1 {a b : Code} (h : WpB P A N a e H (SeqQ (fun e H=>WpB P A N b e H Q) Q)) : WpB P A N (.seq a b) e H Q:=wpB_seq h
theorem wz2 {id : Nat} {l : List Oper} (h : vOpsB P A N (l.map (·.dst)) l e H (fun e H=>Q .norm e H) (fun d e H=>Q (.pan d) e H)) : WpB P A N (.region id l.toArray false) e H Q:=wpB_regionL rfl h
theorem wz3 {id : Nat} {b : Code} (h : WpB P A N b e H (BlkQ id (fun e H=>Q .norm e H) Q)) : WpB P A N (.block id b) e H Q:=wpB_block h
theorem wz4 (h : Q .norm e H) : WpB P A N .skip e H Q:=wpB_skip h
theorem wz5 {id : Nat} (h : Q (.exit id) e H) : WpB P A N (.exit id) e H Q:=wpB_exit h
theorem wz6 (h : Q .ret e H) : WpB P A N .ret e H Q:=wpB_ret h
theorem wz7 {c : Operand} {x y : Code} {b : Bool} (ht : b = true → WpB P A N x e H Q) (hf : b = false → WpB P A N y e H Q) (hc : evalO e c = some (.bool b):=by simp -dsimp (maxSteps:=999999) (disch:=omega) only[go_sem,simprocAttr, *];exact rfl) : WpB P A N (.cond c x y) e H Q:=wpB_cond hc ht hf
end
section
variable {P : Program} {A : Ann} {N : Nat} {S : List (Option Nat)} {o : Oper} {rest : List Oper} {e : Env} {H : Heap}
theorem wz8 {K : Env → Heap → Prop} {Kp : D → Env → Heap → Prop} {b : Bool} {dc : Option Call} (h1 : b = true → stepsB (some true) dc P A N S o rest e H K Kp) (h2 : b = false → stepsB (some false) dc P A N S o rest e H K Kp) : stepsB (some b) dc P A N S o rest e H K Kp:=stepsB_both h1 h2
theorem wz9 {K : Env → Heap → Prop} {b : Bool} {prs : List (List Nat × List Nat)} (h1 : b = true → stepsXB (some true) P A N S prs o rest e H K) (h2 : b = false → stepsXB (some false) P A N S prs o rest e H K) : stepsXB (some b) P A N S prs o rest e H K:=stepsXB_both h1 h2
end
theorem vqs {p q : Prop} (h : p) (e : p = q:=by first | (simp -dsimp (maxSteps:=999999) (disch:=omega) only[go_sem,simprocAttr,decide_eq_true_eq,decide_eq_false_iff_not,Bool.not_eq_true,Bool.not_eq_false,Bool.not_eq_true',Bool.not_eq_false',Int.not_lt,Int.not_le,bne_iff_ne,bne_eq_false_iff_eq,beq_iff_eq,beq_eq_false_iff_ne,ne_eq,Int.ofNat_inj,Int.natCast_inj];done) | (simp -dsimp (maxSteps:=999999) (disch:=omega) only[go_sem,simprocAttr,decide_eq_true_eq,decide_eq_false_iff_not,Bool.not_eq_true,Bool.not_eq_false,Bool.not_eq_true',Bool.not_eq_false',Int.not_lt,Int.not_le,bne_iff_ne,bne_eq_false_iff_eq,beq_iff_eq,beq_eq_false_iff_ne,ne_eq,Int.ofNat_inj,Int.natCast_inj];exact rfl) | exact rfl) : q:=e ▸ h
end Vm
end
section
namespace Vm
open Go
theorem calls_of_ev [Base] {P : Program} {A : Ann} {f : FuncId} {args : List D} {H : Heap} {d : D} (hmo : P.follows .mixedOrders = true) (hA : PrimOk P A) (hb : bodied P f = true) (h : EvF P A f args H (fun d' H' => d' = d ∧ H' = H) (fun _ _ => False))
    {ρ : Rho} {im : Im} {w : World} {vs : List Value} (hR : Rel ρ im H w) (hvs : RepA ρ H.length im vs args) : Calls P f ⟨vs⟩ w (OutR ρ im H w (.ok d H)):=by
  obtain ⟨k,res,h1,h2⟩:=h
  cases res with
  | pan d' H'=>exact h2.elim
  | ok d' H'=>
    obtain ⟨rfl,rfl⟩:=h2
    exact (runF_ok hmo hA k f args _ _ h1 ρ im w vs hR hvs).calls hb
mutual
def eqPl : D → D → Bool
  | .bool a,.bool b=>a == b
  | .int k a,.int k' b=>decide (k = k') && a == b
  | .str a,.str b=>a == b
  | .nilp,.nilp | .nilm,.nilm | .niln,.niln | .nili,.nili=>true
  | .sl f a,.sl g b=>f == g && eqPlL a b
  | .agg a,.agg b=>eqPlL a b
  | .tup a,.tup b=>eqPlL a b
  | _,_=>false
def eqPlL : List D → List D → Bool
  | [],[]=>true
  | x :: r,y :: s=>eqPl x y && eqPlL r s
  | _,_=>false
end
mutual
theorem eqPl_eq : ∀ {a b : D},eqPl a b = true → a = b
  | .bool a,b,h=>by cases b <;> simp_all [eqPl]
  | .int k a,b,h=>by cases b <;> simp_all [eqPl]
  | .str a,b,h=>by cases b <;> simp_all [eqPl]
  | .nilp,b,h=>by cases b <;> simp_all [eqPl]
  | .nilm,b,h=>by cases b <;> simp_all [eqPl]
  | .niln,b,h=>by cases b <;> simp_all [eqPl]
  | .nili,b,h=>by cases b <;> simp_all [eqPl]
  | .sl f a,b,h=>by
    cases b <;> simp only [eqPl] at h <;> first | (cases h;done) | skip
    simp only [Bool.and_eq_true,beq_iff_eq] at h
    rw [h.1,eqPlL_eq h.2]
  | .agg a,b,h=>by
    cases b <;> simp only [eqPl] at h <;> first | (cases h;done) | skip
    rw [eqPlL_eq h]
  | .tup a,b,h=>by
    cases b <;> simp only [eqPl] at h <;> first | (cases h;done) | skip
    rw [eqPlL_eq h]
  | .ptr ..,b,h | .ept ..,b,h | .vec ..,b,h | .map _,b,h | .fn ..,b,h | .bfn ..,b,h | .iface ..,b,h | .yld _,b,h=>by simp [eqPl] at h
theorem eqPlL_eq : ∀ {a b : List D},eqPlL a b = true → a = b
  | [],b,h=>by cases b <;> simp_all [eqPlL]
  | x :: r,b,h=>by
    cases b with
    | nil=>simp [eqPlL] at h
    | cons y s=>
      simp only [eqPlL,Bool.and_eq_true] at h
      rw [eqPl_eq h.1,eqPlL_eq h.2]
end
def tells (x : Option R) (d : D) : Bool:=
  match x with
  | some (.ok d' H)=>match outPure H d' with
    | some e=>eqPl e d
    | none=>false
  | _=>false
theorem tells_pure {P : Program} {A : Ann} {f : FuncId} {k : Nat} {args : List D} {d : D} (h : tells (runF P A k f args []) d = true) : PureF P A f args d:=by
  unfold tells at h
  split at h
  · rename_i d' H hr
    split at h
    · rename_i e ho
      refine ⟨k,_,hr,?_⟩
      show outPure H d' = some d
      rw [ho,eqPl_eq h]
    · cases h
  · cases h
def onlyP (al : List D) (d : D) : List D → Heap → Option R:=fun args H=>(pures H args).bind fun (bs,H')=>if eqPlL bs al = true then some (.ok d (if flat d then H else H')) else none
theorem only_calls [Base] {P : Program} {A : Ann} {f : FuncId} {al args : List D} {H : Heap} {d : D} {r : R} (hmo : P.follows .mixedOrders = true) (hA : PrimOk P A) (hb : bodied P f = true) (hq : primQ A f = false) (hm : A.mode f = .pure) (hp : PureF P A f al d) (h : onlyP al d args H = some r)
    {ρ : Rho} {im : Im} {w : World} {vs : List Value} (hR : Rel ρ im H w) (hvs : RepA ρ H.length im vs args) : Calls P f ⟨vs⟩ w (OutR ρ im H w r):=by
  unfold onlyP at h
  obtain ⟨⟨bs,H'⟩,h1,h2⟩:=bind_some h
  simp only at h2
  split at h2
  · rename_i he
    cases h2
    have:=eqPlL_eq he
    subst this
    obtain ⟨k,res,h3,h4⟩:=hp
    cases res with
    | pan d' H'=>exact h4.elim
    | ok d' Hc=>
      have hc : callD P A (runF P A k) f args H = some (.ok d (if flat d then H else H')):=by
        simp only [callD,hb,Bool.true_eq_false,if_false,(primQ_none hq).1,(primQ_none hq).2,hm,h1,Option.bind_some,h3]
        rw [if_neg (by decide),h4]
        rfl
      rcases callD_ok hA (runF_ok hmo hA k) hR hvs hc with ⟨_,hcalls⟩ | ⟨_,_,_,_,_,hx,_⟩
      · exact hcalls
      · rw [callFunc_run hb] at hx
        cases hx
  · cases h2
end Vm
end
section
namespace Go.Proofs.W
open Go Vm Go.Proofs.Zs25
def isD (l : List Int) : D:=.sl false (l.map (.int .i64))
theorem strip_ints (l : List Int) : stripL (l.map (.int .i64)) = some (l.map (.int .i64)):=by
  induction l with
  | nil=>rfl
  | cons q r ih=>simp [stripL,ih,strip]
theorem strip_is (l : List Int) : strip (isD l) = some (isD l):=by simp [isD,strip,strip_ints]
theorem take_succ' {α : Type} {l : List α} {j : Nat} (h : j < l.length) : l.take (j + 1) = l.take j ++ [l[j]]:=by rw [List.take_add_one,List.getElem?_eq_getElem h];rfl
theorem headInts (l : List Int) : headSize 1 (l.map (D.int .i64)) = true:=by cases l <;> rfl
def allN (p : Nat → Bool) : Nat → Nat → Bool
  | _,0=>true
  | j,m + 1=>p j && allN p (j + 1) m
theorem allN_iff {p : Nat → Bool} : ∀ {m j : Nat},allN p j m = true ↔ ∀ i,j ≤ i → i < j + m → p i = true
  | 0,j=>by simp [allN];intro i h1 h2;omega
  | m + 1,j=>by
    simp only [allN,Bool.and_eq_true,allN_iff (m:=m)]
    constructor
    · rintro ⟨h0,h⟩ i h1 h2
      by_cases e : i = j
      · subst e;exact h0
      · exact h i (by omega) (by omega)
    · intro h
      exact ⟨h j (Nat.le_refl _) (by omega),fun i h1 h2=>h i (by omega) (by omega)⟩
theorem strip3 {a b c : D} (h : strip a = some a) (k : strip b = some b) (j : strip c = some c) : stripL [a,b,c] = some [a,b,c]:=by simp [stripL,h,k,j]
theorem ex_at {α : Type} {l : List α} {i : Nat} (d : α) (h : i < l.length) : ∃ x,l[i]? = some x ∧ l.getD i d = x:=⟨l[i],List.getElem?_eq_getElem h,by simp [List.getD,h]⟩
def Hid (p : Prop) : Prop:=p
theorem allL_drop {p : Int → Bool} {l : List Int} {j : Nat} (h : j < l.length) : (l.drop j).all p = (p l[j] && (l.drop (j + 1)).all p):=by
  rw [List.drop_eq_getElem_cons h];rfl
end Go.Proofs.W
end
section
namespace Vm
open Go Go.RowKit
variable [Base]
def PrimAt (P : Program) (f : FuncId) (p : List D → Heap → Option R) : Prop:=
  ∀ (args : List D) (H : Heap) (r : R),p args H = some r → ∀ (ρ : Rho) (im : Im) (w : World) (vs : List Value),Rel ρ im H w → RepA ρ H.length im vs args → Calls P f ⟨vs⟩ w (OutR ρ im H w r)
def shortS (s : List UInt8) : Bool:=s.length < 4294967281
def pSplit : List D → Heap → Option R
  | [.str s,.str sep],H=>if shortS s = true ∧ 1 ≤ sep.length then some (.ok (.vec H.length 0 (Lib.split s sep).length) (H ++ [.arr ((Lib.split s sep).map .str)])) else none
  | _,_=>none
def pCount : List D → Heap → Option R
  | [.str s,.str sep],H=>if shortS s = true ∧ 1 ≤ sep.length then some (.ok (.int .i64 (Lib.count s sep)) H) else none
  | _,_=>none
def pCut : List D → Heap → Option R
  | [.str s,.str sep],H=>if shortS s = true then some (.ok (.tup [.str (Lib.cut s sep).1,.str (Lib.cut s sep).2.1,.bool (Lib.cut s sep).2.2]) H) else none
  | _,_=>none
def pCutSuffix : List D → Heap → Option R
  | [.str s,.str p],H=>if shortS s = true then some (.ok (.tup [.str (Lib.trimSuffix s p),.bool (Lib.hasSuffix s p)]) H) else none
  | _,_=>none
def pIndexByte : List D → Heap → Option R
  | [.str s,.int .u8 c],H=>some (.ok (.int .i64 (Lib.indexByte s c.toNat.toUInt8)) H)
  | _,_=>none
section
variable {P : Program} {ρ : Rho} {im : Im} {H : Heap} {w w' : World} {f : FuncId} {g : Nat}
omit [Base] in
theorem str_inv {v : Value} {s : List UInt8} {n : Nat} (h : Rep ρ n im v (.str s)) : ∃ b : ByteArray,v = .string b ∧ b.data.toList = s:=by
  cases h with
  | str b=>exact ⟨b,rfl,rfl⟩
omit [Base] in
theorem int_inv {v : Value} {k : IntKind} {m : Int} {n : Nat} (h : Rep ρ n im v (.int k m)) : v = .int k m:=by
  cases h;rfl
omit [Base] in
theorem str_mk (l : List UInt8) {n : Nat} : Rep ρ n im (.string ⟨l.toArray⟩) (.str l):=by
  have:=Rep.str (ρ:=ρ) (n:=n) (im:=im) ⟨l.toArray⟩
  simpa using this
theorem OutR.same (hR : Rel ρ im H w) {v : Value} {d : D} (hv : Rep ρ H.length im v d) : OutR ρ im H w (.ok d H) (.returned v) w:=.ok ρ im H w v d (Mv.refl hR) hv
theorem OutR.drewN (hR : Rel ρ im H w) {v : Value} {d : D} {n : Nat} (hv : Rep ρ H.length im v d) : OutR ρ im H w (.ok d H) (.returned v) (w.drewN n):=
  .ok ρ im H _ v d ⟨hR.world fun _ _=>rfl,ImLe.refl _,Tr.world (fun _ _=>rfl) (Nat.le_refl _) rfl rfl rfl,fun _ _ _ h=>.inl h⟩ hv
omit [Base] in
theorem size_list (s : ByteArray) : s.data.toList.length = s.size:=by rw [Array.length_toList];rfl
theorem base_cell (hR : Rel ρ im H w) {v : Value} (h : Base.B g 0 = some v) : w.cell? ⟨g,0,none⟩ = some v:=hR.imc _ _ _ (hR.base _ _ _ h)
theorem pIndexByte_at (hc : ∀ (s : ByteArray) (c : Int) (w : World),Calls P f #[.string s,.int .u8 c] w fun e w'=>e = .returned (.int .i64 (Lib.indexByte s.data.toList c.toNat.toUInt8)) ∧ w' = w) : PrimAt P f pIndexByte:=by
  intro args H r h ρ im w vs hR hvs
  unfold pIndexByte at h
  split at h
  · rename_i s c
    cases h
    obtain ⟨v,u,rfl,h1,h2⟩:=hvs.two
    obtain ⟨b,rfl,rfl⟩:=str_inv h1
    obtain rfl:=int_inv h2
    refine (hc b c w).mono ?_
    rintro e w' ⟨rfl,rfl⟩
    exact OutR.same hR (.int _ _)
  · cases h
theorem pCutSuffix_at (hc : ∀ (s p : ByteArray) (w : World),s.size ≤ 9223372036854775807 → Calls P f #[.string s,.string p] w fun e w'=>e = .returned (.tuple #[.string ⟨(Lib.trimSuffix s.data.toList p.data.toList).toArray⟩,.bool (Lib.hasSuffix s.data.toList p.data.toList)]) ∧ w' = w) : PrimAt P f pCutSuffix:=by
  intro args H r h ρ im w vs hR hvs
  unfold pCutSuffix at h
  split at h
  · rename_i s c
    split at h
    · rename_i hs
      cases h
      obtain ⟨v,u,rfl,h1,h2⟩:=hvs.two
      obtain ⟨b,rfl,rfl⟩:=str_inv h1
      obtain ⟨q,rfl,rfl⟩:=str_inv h2
      have hs' : b.size < 4294967281:=by simpa [shortS,size_list] using hs
      refine (hc b q w (by omega)).mono ?_
      rintro e w' ⟨rfl,rfl⟩
      exact OutR.same hR (.tup _ _ (.cons _ _ _ _ (str_mk _) (.cons _ _ _ _ (.bool _) .nil)))
    · cases h
  · cases h
theorem pCut_at (hB : ∃ m, Base.B g 0 = some (.int .i64 m)) (hc : ∀ (s sep : ByteArray) (m : Int) (w : World), s.size < 4294967281 → w.cell? ⟨g, 0, none⟩ = some (.int .i64 m) →
    Calls P f #[.string s,.string sep] w fun e w'=>e = .returned (.tuple #[.string ⟨(Lib.cut s.data.toList sep.data.toList).1.toArray⟩,.string ⟨(Lib.cut s.data.toList sep.data.toList).2.1.toArray⟩,.bool (Lib.cut s.data.toList sep.data.toList).2.2]) ∧ ∃ n,w' = w.drewN n) : PrimAt P f pCut:=by
  obtain ⟨m,hB⟩:=hB
  intro args H r h ρ im w vs hR hvs
  unfold pCut at h
  split at h
  · rename_i s c
    split at h
    · rename_i hs
      cases h
      obtain ⟨v,u,rfl,h1,h2⟩:=hvs.two
      obtain ⟨b,rfl,rfl⟩:=str_inv h1
      obtain ⟨q,rfl,rfl⟩:=str_inv h2
      have hs' : b.size < 4294967281:=by simpa [shortS,size_list] using hs
      refine (hc b q m w hs' (base_cell hR hB)).mono ?_
      rintro e w' ⟨rfl,n,rfl⟩
      exact OutR.drewN hR (.tup _ _ (.cons _ _ _ _ (str_mk _) (.cons _ _ _ _ (str_mk _) (.cons _ _ _ _ (.bool _) .nil))))
    · cases h
  · cases h
theorem pCount_at (hB : ∃ m, Base.B g 0 = some (.int .i64 m)) (hc : ∀ (s sep : ByteArray) (m : Int) (w : World), s.size < 4294967281 → w.cell? ⟨g, 0, none⟩ = some (.int .i64 m) → 1 ≤ sep.size →
    Calls P f #[.string s,.string sep] w fun e w'=>e = .returned (.int .i64 (Lib.countB s sep)) ∧ w' = w) : PrimAt P f pCount:=by
  obtain ⟨m,hB⟩:=hB
  intro args H r h ρ im w vs hR hvs
  unfold pCount at h
  split at h
  · rename_i s c
    split at h
    · rename_i hs
      obtain ⟨hs,hq⟩:=hs
      cases h
      obtain ⟨v,u,rfl,h1,h2⟩:=hvs.two
      obtain ⟨b,rfl,rfl⟩:=str_inv h1
      obtain ⟨q,rfl,rfl⟩:=str_inv h2
      have hs' : b.size < 4294967281:=by simpa [shortS,size_list] using hs
      refine (hc b q m w hs' (base_cell hR hB) (by simpa [size_list] using hq)).mono ?_
      rintro e w' ⟨rfl,rfl⟩
      exact OutR.same hR (.int _ _)
    · cases h
  · cases h
omit [Base] in
theorem strs_rep {n : Nat} : ∀ (l : List ByteArray),RepL ρ n im (l.map Value.string) (flatC ((l.map (·.data.toList)).map D.str))
  | []=>.nil
  | b :: l=>by
    simp only [List.map_cons,flatC,List.flatMap_cons,D.cells,List.cons_append,List.nil_append]
    exact .cons _ _ _ _ rfl (.str b) (strs_rep l)
theorem pSplit_at {t : TypeId} (hB : ∃ m, Base.B g 0 = some (.int .i64 m)) (hc : ∀ (s sep : ByteArray) (m : Int) (w : World), s.size < 4294967281 → w.cell? ⟨g, 0, none⟩ = some (.int .i64 m) → 1 ≤ sep.size →
    Calls P f #[.string s,.string sep] w fun e w'=>e = .returned (.slice (some ⟨w.heap.size,0,none⟩) (Lib.countB s sep + 1) (Lib.countB s sep + 1)) ∧ w' = w.alloc (.cells ((Lib.splitB sep 0 (Lib.countB s sep) s).map Value.string).toArray t)) : PrimAt P f pSplit:=by
  obtain ⟨m,hB⟩:=hB
  intro args H r h ρ im w vs hR hvs
  unfold pSplit at h
  split at h
  · rename_i s c
    split at h
    · rename_i hs
      obtain ⟨hs,hq⟩:=hs
      cases h
      obtain ⟨v,u,rfl,h1,h2⟩:=hvs.two
      obtain ⟨b,rfl,rfl⟩:=str_inv h1
      obtain ⟨q,rfl,rfl⟩:=str_inv h2
      have hs' : b.size < 4294967281:=by simpa [shortS,size_list] using hs
      have hq' : 1 ≤ q.size:=by simpa [size_list] using hq
      refine (hc b q m w hs' (base_cell hR hB) hq').mono ?_
      rintro e w' ⟨rfl,rfl⟩
      have hlen : (Lib.splitB q 0 (Lib.countB b q) b).length = Lib.countB b q + 1:=Lib.splitB_all q hq' 0 _ b rfl
      have hsp : Lib.split b.data.toList q.data.toList = (Lib.splitB q 0 (Lib.countB b q) b).map (·.data.toList):=(Lib.splitB_data q 0 _ b).symm
      generalize hL : Lib.splitB q 0 (Lib.countB b q) b = L at hlen hsp
      rw [hsp]
      have hrel:=hR.alloc (sz:=1) (cap:=Lib.countB b q + 1) (xs:=(L.map (·.data.toList)).map D.str) (c:=(L.map Value.string).toArray) (t:=t) (fz:=(0,0)) (by simp [hlen]) (by simp [D.cells]) (by simp [hlen])
        (by rw [List.take_of_length_le (by simp [hlen])];exact strs_rep L) (.inr (Nat.le_refl _))
      refine .ok _ im _ _ _ _ ⟨hrel.1,ImLe.refl _,hrel.2,fun _ _ _ h=>.inl h⟩ ?_
      have:=vec_rep (n:=(H ++ [Ob.arr ((L.map (·.data.toList)).map D.str)]).length) (im:=im) (ρ:=newR ρ H.length ⟨w.heap.size,1,Lib.countB b q + 1,true⟩) (r:=H.length) (m:=Lib.countB b q + 1) (by simp) (newR_eq) (Nat.le_refl _)
      simpa [hlen] using this
    · cases h
  · cases h
end
end Vm
end
section
namespace Vm
open Go Go.RowKit Go.Sort
def insZ (x : Int) : List Int → List Int
  | []=>[x]
  | y :: l=>if x ≤ y then x :: y :: l else y :: insZ x l
def sortZ (zs : List Int) : List Int:=zs.foldr insZ []
theorem insZ_perm (x : Int) (l : List Int) : (insZ x l).Perm (x :: l):=by
  induction l with
  | nil=>exact .refl _
  | cons y l ih=>
    unfold insZ
    split
    · exact .refl _
    · exact (ih.cons y).trans (.swap x y l)
theorem insZ_sorted (x : Int) (l : List Int) (h : l.Pairwise (· ≤ ·)) : (insZ x l).Pairwise (· ≤ ·):=by
  induction l with
  | nil=>simp [insZ]
  | cons y l ih=>
    have h':=List.pairwise_cons.1 h
    unfold insZ
    split
    · rename_i hxy
      refine List.pairwise_cons.2 ⟨fun a ha=>?_,h⟩
      rcases List.mem_cons.1 ha with rfl | ha
      · exact hxy
      · exact Int.le_trans hxy (h'.1 a ha)
    · rename_i hxy
      refine List.pairwise_cons.2 ⟨fun a ha=>?_,ih h'.2⟩
      rcases List.mem_cons.1 ((insZ_perm x l).subset ha) with rfl | ha
      · omega
      · exact h'.1 a ha
theorem sortZ_perm (l : List Int) : (sortZ l).Perm l:=by
  induction l with
  | nil=>exact .refl _
  | cons x l ih=>exact (insZ_perm x _).trans (ih.cons x)
theorem sortZ_sorted (l : List Int) : (sortZ l).Pairwise (· ≤ ·):=by
  induction l with
  | nil=>exact .nil
  | cons x l ih=>exact insZ_sorted x _ ih
theorem sorted_unique : ∀ {l l' : List Int},l.Pairwise (· ≤ ·) → l'.Pairwise (· ≤ ·) → l.Perm l' → l = l'
  | [],l',_,_,h=>by simpa using h.symm
  | x :: t,[],_,_,h=>by simp at h
  | x :: t,y :: t',h1,h2,h=>by
    have a1:=List.pairwise_cons.1 h1
    have a2:=List.pairwise_cons.1 h2
    have e : x = y:=by
      have m1 : x ∈ y :: t':=h.subset (by simp)
      have m2 : y ∈ x :: t:=h.symm.subset (by simp)
      rcases List.mem_cons.1 m1 with e | m1
      · exact e
      · rcases List.mem_cons.1 m2 with e | m2
        · exact e.symm
        · have:=a2.1 x m1;have:=a1.1 y m2;omega
    subst e
    rw [sorted_unique a1.2 a2.2 (List.Perm.cons_inv h)]
theorem sortZ_eq (zs : List Int) : (zs.mergeSort fun x y=>decide (x ≤ y)) = sortZ zs:=by
  refine sorted_unique ?_ (sortZ_sorted zs) ((List.mergeSort_perm zs _).trans (sortZ_perm zs).symm)
  have:=List.pairwise_mergeSort (le:=fun x y : Int=>decide (x ≤ y)) (fun a b c h1 h2=>by simp at *;omega) (fun a b=>by simp;omega) zs
  simpa using this
variable [Base]
def intsD : List D → Option (List Int)
  | []=>some []
  | .int .i64 n :: r=>(intsD r).map (n :: ·)
  | _=>none
omit [Base] in
theorem intsD_eq : ∀ {xs : List D} {zs : List Int},intsD xs = some zs → xs = zs.map (.int .i64)
  | [],zs,h=>by cases h;rfl
  | x :: r,zs,h=>by
    unfold intsD at h
    split at h
    · rename_i heq;cases heq
    · rename_i heq
      cases heq
      cases hr : intsD r with
      | none=>rw [hr] at h;cases h
      | some l=>rw [hr] at h;cases h;rw [intsD_eq hr];rfl
    · cases h
omit [Base] in
theorem intsD_map (zs : List Int) : intsD (zs.map (.int .i64)) = some zs:=by
  induction zs with
  | nil=>rfl
  | cons z r ih=>simp [intsD,ih]
def pSort : List D → Heap → Option R
  | [.vec r 0 n],H=>match hget H r with
    | .arr xs=>(intsD xs).bind fun zs=>if n = zs.length ∧ zs.length < 4611686018427387904 ∧ 0 < zs.length then some (.ok (.tup []) (H.set r (.arr ((sortZ zs).map (.int .i64))))) else none
    | _=>none
  | [.sl _ []],H=>some (.ok (.tup []) H)
  | _,_=>none
section
variable {P : Program} {ρ : Rho} {im : Im} {H : Heap} {w w' : World} {f : FuncId}
omit [Base] in
theorem repL_ints {n : Nat} : ∀ {vs : List Value} {zs : List Int},RepL ρ n im vs (zs.map (.int .i64)) → vs = zs.map (.int .i64)
  | _,[],h=>by cases h;rfl
  | _,z :: r,h=>by
    cases h with
    | cons v d vs ds h1 h2 h3=>
      cases h2
      rw [repL_ints h3];rfl
omit [Base] in
theorem repL_ints_mk {n : Nat} (zs : List Int) : RepL ρ n im (zs.map (.int .i64)) (zs.map (.int .i64)):=by
  induction zs with
  | nil=>exact .nil
  | cons z r ih=>exact .cons _ _ _ _ rfl (.int _ _) ih
omit [Base] in
theorem flatC_ints (zs : List Int) : flatC (zs.map (D.int .i64)) = zs.map (.int .i64):=by
  induction zs with
  | nil=>rfl
  | cons z r ih=>simp only [List.map_cons,flatC,List.flatMap_cons] at *;rw [ih];rfl
theorem row_ints (hR : Rel ρ im H w) {r : Nat} (hr2 : r < H.length) {zs : List Int} (hx : hget H r = .arr (zs.map (.int .i64))) (hpos : 0 < zs.length) :
    (ρ r).sz = 1 ∧ zs.length ≤ (ρ r).cap ∧ Holds (Value.int .i64) w (ρ r).b 0 zs.toArray ∧ (ρ r).b < w.heap.size ∧
      ∀ (ts : List Int) (m : Nat),ts.length = zs.length → Mv ρ im H w ρ im (H.set r (.arr (ts.map (.int .i64)))) (putRow (Value.int .i64) (Sort.ahead w m) (ρ r).b 0 ts.toArray):=by
  have hob:=hR.obj r hr2
  rw [hx] at hob
  obtain ⟨c,ty,fz,h1,h2,h3,h4,h5,h6⟩:=hob
  have hsz : (ρ r).sz = 1:=by
    cases zs with
    | nil=>simp at hpos
    | cons z zr=>exact (h3 (.int .i64 z) (by simp)).symm
  rw [hsz,Nat.mul_one,List.length_map,flatC_ints] at h5
  have h5':=repL_ints h5
  rw [hsz,Nat.mul_one] at h2
  rw [List.length_map] at h4
  have hH : Holds (Value.int .i64) w (ρ r).b 0 zs.toArray:=by
    intro j hj
    have hj' : j < zs.length:=by simpa using hj
    have hjc : j < c.size:=by omega
    have e1 : c.toList[j]? = some (.int .i64 zs[j]):=by
      have : (c.toList.take zs.length)[j]? = (zs.map (Value.int .i64))[j]?:=by rw [h5']
      rw [List.getElem?_take_of_lt hj'] at this
      rw [this];simp [hj']
    refine ⟨?_,?_⟩
    · simp only [World.cell?,h1,Nat.zero_add]
      simp only [Option.isSome_none,Bool.false_eq_true,if_false]
      rw [← Array.getElem?_toList,e1]
      simp [hj']
    · simp only [World.frozen?,h1]
      simp only [Bool.and_eq_false_iff,decide_eq_false_iff_not]
      omega
  have hblk : (ρ r).b < w.heap.size:=(Array.getElem?_eq_some_iff.1 h1).1
  refine ⟨hsz,h4,hH,hblk,fun ts m hs=>?_⟩
  have hl : live (hget H r):=by rw [hx];trivial
  have hrow : (putRow (Value.int .i64) (Sort.ahead w m) (ρ r).b 0 ts.toArray).heap[(ρ r).b]? = some (.cells (putCells (Value.int .i64) 0 ts.toArray c) ty fz):=by
    simp [putRow,mapBlock,Sort.ahead,Array.getElem?_modify,h1,onCells]
  have hoth : ∀ b,b ≠ (ρ r).b → (putRow (Value.int .i64) (Sort.ahead w m) (ρ r).b 0 ts.toArray).heap[b]? = w.heap[b]?:=by
    intro b hb
    have : (ρ r).b ≠ b:=fun e=>hb e.symm
    simp [putRow,mapBlock,Sort.ahead,Array.getElem?_modify,this]
  have htake : (putCells (Value.int .i64) 0 ts.toArray c).toList.take ts.length = ts.map (Value.int .i64):=by
    apply List.ext_getElem?
    intro j
    by_cases hj : j < ts.length
    · rw [List.getElem?_take_of_lt hj,Array.getElem?_toList]
      simp [putCells,hj,show j < c.size by omega]
    · rw [List.getElem?_take_eq_none (by omega),List.getElem?_eq_none (by simp;omega)]
  have hok : ObOk ρ H.length im (putRow (Value.int .i64) (Sort.ahead w m) (ρ r).b 0 ts.toArray) (ρ r) (.arr (ts.map (.int .i64))):=by
    refine ⟨_,ty,fz,hrow,by simp [putCells,h2,hsz],?_,by simp [hs];exact h4,?_,by simpa [putCells] using h6⟩
    · intro x hx'
      obtain ⟨z,-,rfl⟩:=List.mem_map.1 hx'
      rw [hsz];rfl
    · rw [hsz,Nat.mul_one,List.length_map,flatC_ints,htake]
      exact repL_ints_mk _
  exact ⟨hR.setOb hr2 hl hoth hok,ImLe.refl _,Tr.setOb hr2 hl hoth (by simp [putRow,mapBlock,Sort.ahead]) rfl rfl rfl,fun _ _ _ h=>.inl h⟩
theorem pSort_at (hc : ∀ (blk cap : Nat) (zs : List Int) (w : World),Holds (Value.int .i64) w blk 0 zs.toArray → blk < w.heap.size → zs.length < 4611686018427387904 →
      Calls P f #[.slice (some ⟨blk,0,none⟩) zs.length cap] w fun e w'=>e = .returned (.tuple #[]) ∧ ∃ n os,w' = grow (putRow (Value.int .i64) (Sort.ahead w n) blk 0 (zs.mergeSort fun x y=>decide (x ≤ y)).toArray) os)
    (hc0 : ∀ (p : Option Addr) (cap : Nat) (w : World),Calls P f #[.slice p 0 cap] w fun e w'=>e = .returned (.tuple #[]) ∧ w' = w) : PrimAt P f pSort:=by
  intro args H r h ρ im w vs hR hvs
  unfold pSort at h
  split at h
  · rename_i r n
    split at h
    · rename_i xs hx
      cases hz : intsD xs with
      | none=>rw [hz] at h;cases h
      | some zs=>
        rw [hz] at h
        simp only [Option.bind_some] at h
        split at h
        · rename_i hn
          obtain ⟨rfl,hlen,hpos⟩:=hn
          cases h
          have hxs:=intsD_eq hz
          subst hxs
          cases hvs with
          | cons v d vs ds hv hr=>
            cases hr
            cases hv with
            | vec _ _ _ hr2 hcap=>
              obtain ⟨hsz,hcap2,hH,hblk,hmv⟩:=row_ints hR hr2.lt hx hpos
              rw [Nat.zero_mul]
              refine (hc (ρ r).b _ zs w hH hblk hlen).mono ?_
              rintro e w' ⟨rfl,m,os,hw⟩
              rw [sortZ_eq] at hw
              subst hw
              have m1:=hmv (sortZ zs) m (sortZ_perm zs).length_eq
              have hgrow : ∀ b,b < (putRow (Value.int .i64) (Sort.ahead w m) (ρ r).b 0 (sortZ zs).toArray).heap.size → (grow (putRow (Value.int .i64) (Sort.ahead w m) (ρ r).b 0 (sortZ zs).toArray) os).heap[b]? = (putRow (Value.int .i64) (Sort.ahead w m) (ρ r).b 0 (sortZ zs).toArray).heap[b]?:=
                fun b hb=>heap_grow_old _ _ hb
              have m2:=m1.trans ⟨m1.rel.world hgrow,ImLe.refl _,Tr.world hgrow (by simp [grow]) rfl rfl rfl,fun _ _ _ h=>.inl h⟩
              exact .ok ρ im _ _ _ _ m2 (.tup [] [] .nil)
        · cases h
    · cases h
  · rename_i f2
    cases h
    cases hvs with
    | cons v d vs ds hv hr=>
      cases hr
      cases hv with
      | sl0 a cap f hf=>
        refine (hc0 a cap w).mono ?_
        rintro e w' ⟨rfl,rfl⟩
        exact OutR.same hR (.tup [] [] .nil)
      | sl b o sz cap f xs vs hs hc' h hf hcap=>
        refine (hc0 _ cap w).mono ?_
        rintro e w' ⟨rfl,rfl⟩
        exact OutR.same hR (.tup [] [] .nil)
  · cases h
def compactZ (zs : List Int) : List Int:=Lib.compact zs ++ List.replicate (zs.length - (Lib.compact zs).length) 0
def pCompact : List D → Heap → Option R
  | [.vec r 0 n],H=>match hget H r with
    | .arr xs=>(intsD xs).bind fun zs=>if n = zs.length ∧ zs.length < 4611686018427387904 ∧ 0 < zs.length ∧ (Lib.compact zs).length ≤ zs.length then some (.ok (.vec r 0 (Lib.compact zs).length) (H.set r (.arr ((compactZ zs).map (.int .i64))))) else none
    | _=>none
  | [.sl f []],H=>some (.ok (.sl f []) H)
  | _,_=>none
theorem pCompact_at (hc : ∀ (blk cap : Nat) (zs : List Int) (w : World),Holds (Value.int .i64) w blk 0 zs.toArray → zs.length ≤ 9223372036854775807 → zs.length ≤ cap →
      Calls P f #[.slice (some ⟨blk,0,none⟩) zs.length cap] w fun e w'=>e = .returned (.slice (some ⟨blk,0,none⟩) (Lib.compact zs).length cap) ∧ ∃ q,w' = putRow (Value.int .i64) (Sort.ahead w q) blk 0 (Lib.compact zs ++ List.replicate (zs.length - (Lib.compact zs).length) 0).toArray)
    (hc0 : ∀ (p : Option Addr) (cap : Nat) (w : World),Calls P f #[.slice p 0 cap] w fun e w'=>e = .returned (.slice p 0 cap) ∧ w' = w) : PrimAt P f pCompact:=by
  intro args H r h ρ im w vs hR hvs
  unfold pCompact at h
  split at h
  · rename_i r n
    split at h
    · rename_i xs hx
      cases hz : intsD xs with
      | none=>rw [hz] at h;cases h
      | some zs=>
        rw [hz] at h
        simp only [Option.bind_some] at h
        split at h
        · rename_i hn
          obtain ⟨rfl,hlen,hpos,hle⟩:=hn
          cases h
          have hxs:=intsD_eq hz
          subst hxs
          cases hvs with
          | cons v d vs ds hv hr=>
            cases hr
            cases hv with
            | vec _ _ _ hr2 hcap=>
              obtain ⟨hsz,hcap2,hH,hblk,hmv⟩:=row_ints hR hr2.lt hx hpos
              rw [Nat.zero_mul]
              refine (hc (ρ r).b _ zs w hH (by omega) (by omega)).mono ?_
              rintro e w' ⟨rfl,q,rfl⟩
              have m1:=hmv (compactZ zs) q (by simp [compactZ];omega)
              have hrep:=Rep.vec (ρ:=ρ) (n:=(H.set r (.arr ((compactZ zs).map (D.int .i64)))).length) (im:=im) r 0 (Lib.compact zs).length (by simpa using hr2) (by omega)
              rw [Nat.zero_mul] at hrep
              exact .ok ρ im _ _ _ _ m1 hrep
        · cases h
    · cases h
  · rename_i f2
    cases h
    cases hvs with
    | cons v d vs ds hv hr=>
      cases hr
      cases hv with
      | sl0 a cap f hf=>
        refine (hc0 a cap w).mono ?_
        rintro e w' ⟨rfl,rfl⟩
        exact OutR.same hR (.sl0 _ _ _ hf)
      | sl b o sz cap f xs vs hs hc' h hf hcap=>
        refine (hc0 _ cap w).mono ?_
        rintro e w' ⟨rfl,rfl⟩
        exact OutR.same hR (.sl0 _ _ _ (fun h=>by simpa using hf h))
  · cases h
end
end Vm
end
section
-- use:
namespace Go.Proofs.W
open Go Vm Go.Proofs.Zs25
def states : List Nat:=[86,109,110,111,134,135,148,152,153,85,87,41,138,114,115,116,136,137,90,21,36,22,23,28,46,35,52,38,39,51,77,75,76,96,97,55,56,74,98,124,125,126,127,129,130]
def ruleL (rs : List D) : List D → Int → Option Int
  | [],out=>some out
  | .int .i64 s :: xs,out=>if 0 ≤ s then (match rs[s.toNat]? with
    | some (.int .i64 r)=>ruleL rs xs (if r ≥ 0 ∧ (out < 0 ∨ r < out) then r else out)
    | _=>none) else none
  | _,_=>none
def ruleG : List D → List Ob → Option D
  | [.ptr _ 0 0,.sl _ xs],[.arr [.agg [_,_,_,.sl _ rs,_,_,_,_]]]=>if xs.length ≤ 1000000 then (ruleL rs xs (-1)).map (.int .i64) else none
  | _,_=>none
def A : Ann:={ mode:=fun f=>if states.contains f then .state else if f = 37 then .fresh else .pure,prim:=fun f=>
  if f = 32 then some pSplit else if f = 43 then some pCount else if f = 64 then some pCut else if f = 33 then some pCutSuffix else if f = 172 then some pIndexByte else if f = 139 then some pSort else if f = 140 then some pCompact else none,fz:=fun t=>t == 38,rd:=fun f=>if f = 117 then some ruleG else none,bl:=fun f=>if f = 55 then some (.add .i64) else if f = 56 then some (.load .i64) else if f = 74 then some (.load .u32) else if f = 98 then some .store else if f = 124 then some .mark0 else if f = 125 then some (.cas .i32) else if f = 126 then some .mark0 else if f = 127 then some .mark1 else if f = 129 then some .mark1 else if f = 130 then some (.add .i32) else none }
theorem A_fz (t : TypeId) : A.fz t = (t == 38):=rfl
attribute [go_sem] A_fz
def okTrue : Option R → Bool
  | some (.ok (.bool b) _)=>b
  | _=>false
-- theorem alive_run : okTrue (runF Tryz.prog A 200 8 [] []) = true:=by kernel_rfl
end Go.Proofs.W
end
section
namespace Go.Proofs.W
open Go Vm Go.Proofs.Zs25
end Go.Proofs.W
end
section
namespace Go.Proofs.W
open Go Vm Go.Proofs.Zs25
end Go.Proofs.W
end
section
namespace Go.Proofs.W
open Go Vm Go.Proofs.Zs25
def A1 : Ann:={ mode:=fun _=>.pure,prim:=fun _=>none }
theorem prim1 [Base] : PrimOk Tryz.prog A1:=⟨fun f k h=>(by cases h),fun f g h=>(by cases h),fun f p h=>(by cases h)⟩
theorem ruleL_cons {rs xs : List D} {x : D} {out r : Int} (h : ruleL rs (x :: xs) out = some r) : ∃ s q : Int,x = .int .i64 s ∧ 0 ≤ s ∧ rs[s.toNat]? = some (.int .i64 q) ∧ ruleL rs xs (if q ≥ 0 ∧ (out < 0 ∨ q < out) then q else out) = some r:=by
  unfold ruleL at h
  split at h
  · rename_i e1;cases e1
  · rename_i e1
    cases e1
    split at h
    · split at h
      · rename_i q hq
        exact ⟨_,q,rfl,by assumption,hq,h⟩
      · cases h
    · cases h
  · cases h
theorem rule_ok (r : Nat) (f g : Bool) (xs rs : List D) (c0 c1 c2 c4 c5 c6 c7 : D) (H : Heap) (hg : hget H r = .arr [.agg [c0,c1,c2,.sl g rs,c4,c5,c6,c7]]) (x : Int) (hx : ruleL rs xs (-1) = some x) (hl : xs.length ≤ 1000000) :
    EvF Tryz.prog A1 117 [.ptr r 0 0,.sl f xs] H (fun d H'=>d = .int .i64 x ∧ H' = H) (fun _ _=>False):=by
  refine evF_inB (n:=37) (rs:=[.tmp 4]) Tryz.func117 rfl rfl rfl rfl rfl rfl ?_
  replace hx : Hid (ruleL rs (xs.drop 0) (-1) = some x):=hx
  repeat' (first | apply wz1|apply wz2|apply wz3|apply wz4|apply wz5|apply wz6 | simp -dsimp (maxSteps:=999999) (disch:=omega) only[go_sem,simprocAttr, *] | ((first | refine wz8 ?_ ?_|refine wz9 ?_ ?_|refine wz7 ?_ ?_)<;>intro hh <;> (try replace hh:=vqs hh) <;> (try (exfalso;first | exact hh | omega))))
  refine wpB_loop (fun e Hx=>∃ (j : Nat) (o : Int),j ≤ xs.length ∧ Hx = H ∧ e 0 = .ptr r 0 0 ∧ e 5 = .int .i64 o ∧ e 9 = .sl f xs ∧ e 10 = .int .i64 xs.length ∧ e 11 = .int .i64 j ∧ ruleL rs (xs.drop j) o = some x) (fun e H=>xs.length - natOf (e 11)) ?_ ?_
  · exact ⟨0,-1,by omega,rfl,gs,gs,gs,gs,gs,hx⟩
  clear hx
  rintro e Hx ⟨j,o,hj,rfl,e0,e5,e9,e10,e11,hx⟩ R hR
  by_cases hb : j < xs.length
  case neg=>
    rw [List.drop_eq_nil_of_le (by omega)] at hx
    have : o = x:=by simpa [ruleL] using hx
    subst this
    clear hx
    repeat' (first | apply wz1|apply wz2|apply wz3|apply wz4|apply wz5|apply wz6 | simp -dsimp (maxSteps:=999999) (disch:=omega) only[go_sem,simprocAttr, *] | ((first | refine wz8 ?_ ?_|refine wz9 ?_ ?_|refine wz7 ?_ ?_)<;>intro hh <;> (try replace hh:=vqs hh) <;> (try (exfalso;first | exact hh | omega))))
  have hd : xs.drop j = xs[j] :: xs.drop (j + 1):=List.drop_eq_getElem_cons hb
  rw [hd] at hx
  obtain ⟨s,q,hs,hs0,hq,hx⟩:=ruleL_cons hx
  have hcell : xs[j]? = some (.int .i64 s):=by rw [List.getElem?_eq_getElem hb,hs]
  have hsl : s < rs.length:=by
    have:=(List.getElem?_eq_some_iff.1 hq).1
    omega
  clear hd hs
  replace hx : Hid (ruleL rs (xs.drop (j + 1)) (if q ≥ 0 ∧ (o < 0 ∨ q < o) then q else o) = some x):=hx
  repeat' (first | apply wz1|apply wz2|apply wz3|apply wz4|apply wz5|apply wz6 | simp -dsimp (maxSteps:=999999) (disch:=omega) only[go_sem,simprocAttr, *] | ((first | refine wz8 ?_ ?_|refine wz9 ?_ ?_|refine wz7 ?_ ?_)<;>intro hh <;> (try replace hh:=vqs hh) <;> (try (exfalso;first | exact hh | omega))))
  all_goals first
    | (refine hR _ _ ⟨j + 1, q, by omega, rfl, gs, gs, gs, gs, gs, ?_⟩ ?_
       · have h:=hx;unfold Hid at h
         rwa [if_pos (by omega)] at h
       · simp -dsimp (maxSteps:=999999) (disch:=omega) only[go_sem,simprocAttr, *,natOf_int])
    | (refine hR _ _ ⟨j + 1, o, by omega, rfl, gs, gs, gs, gs, gs, ?_⟩ ?_
       · have h:=hx;unfold Hid at h
         rwa [if_neg (by omega)] at h
       · simp -dsimp (maxSteps:=999999) (disch:=omega) only[go_sem,simprocAttr, *,natOf_int])
theorem ruleG_inv {args : List D} {obs : List Ob} {d : D} (h : ruleG args obs = some d) : ∃ r f g xs rs c0 c1 c2 c4 c5 c6 c7 x,args = [.ptr r 0 0,.sl f xs] ∧ obs = [.arr [.agg [c0,c1,c2,.sl g rs,c4,c5,c6,c7]]] ∧ ruleL rs xs (-1) = some x ∧ d = .int .i64 x ∧ xs.length ≤ 1000000:=by
  unfold ruleG at h
  split at h
  · split at h
    case isFalse=>cases h
    rename_i hl
    cases hx : ruleL _ _ (-1) with
    | none=>rw [hx] at h;cases h
    | some x=>
      rw [hx] at h
      cases h
      exact ⟨_,_,_,_,_,_,_,_,_,_,_,_,x,rfl,rfl,hx,rfl,hl⟩
  · cases h
theorem mixed : Tryz.prog.follows .mixedOrders = true:=by kernel_rfl
theorem rule_calls [Base] {args : List D} {H : Heap} {d : D} (h : ruleG args ((args.flatMap objsD).map (hget H)) = some d) {ρ : Rho} {im : Im} {w : World} {vs : List Value} (hR : Rel ρ im H w) (hvs : RepA ρ H.length im vs args) : Calls Tryz.prog 117 ⟨vs⟩ w (OutR ρ im H w (.ok d H)):=by
  obtain ⟨r,f,g,xs,rs,c0,c1,c2,c4,c5,c6,c7,x,rfl,hob,hx,rfl,hl⟩:=ruleG_inv h
  have hg : hget H r = .arr [.agg [c0,c1,c2,.sl g rs,c4,c5,c6,c7]]:=by simpa [objsD] using hob
  exact calls_of_ev mixed prim1 bo117 (rule_ok r f g xs rs c0 c1 c2 c4 c5 c6 c7 H hg x hx hl) hR hvs
end Go.Proofs.W
end
section
namespace Go.Proofs
open Go.Shelf
def Tryz.lays146_ren : Go.Shelf.Ren:=⟨fun | 146=>32 | 221=>49 | 268=>72 | 138=>43 | 143=>63 | 195=>61 | 197=>95 | 218=>62 | 219=>83 | 260=>123 | 217=>105 | 225=>106 | 224=>107 | 267=>108 | 266=>132 | 314=>133 | n=>n,fun | 9=>9 | 31=>23 | 3=>3 | 4=>4 | 0=>0 | 105=>169 | 21=>21 | 5=>5 | 46=>126 | 119=>209 | 139=>212 | 138=>211 | 146=>197 | 51=>42 | n=>n,fun | 1=>0 | 3=>1 | 4=>2 | n=>n⟩
theorem Tryz.lays146 : Go.Proofs.Lays.n146 Tryz.prog Tryz.lays146_ren:={
  mixed:=by kernel_rfl
  f138:=Tryz.func43.trans (congrArg some (by kernel_rfl))
  f143:=Tryz.func63.trans (congrArg some (by kernel_rfl))
  f146:=Tryz.func32.trans (congrArg some (by kernel_rfl))
  f195:=Tryz.func61.trans (congrArg some (by kernel_rfl))
  f197:=Tryz.func95.trans (congrArg some (by kernel_rfl))
  f217:=Tryz.func105.trans (congrArg some (by kernel_rfl))
  f218:=Tryz.func62.trans (congrArg some (by kernel_rfl))
  f219:=Tryz.func83.trans (congrArg some (by kernel_rfl))
  f221:=Tryz.func49.trans (congrArg some (by kernel_rfl))
  f224:=Tryz.func107.trans (congrArg some (by kernel_rfl))
  f225:=Tryz.func106.trans (congrArg some (by kernel_rfl))
  f260:=Tryz.func123.trans (congrArg some (by kernel_rfl))
  f266:=Tryz.func132.trans (congrArg some (by kernel_rfl))
  f267:=Tryz.func108.trans (congrArg some (by kernel_rfl))
  f268:=Tryz.func72.trans (congrArg some (by kernel_rfl))
  f314:=Tryz.func133.trans (congrArg some (by kernel_rfl))
  t0:=Tryz.underlying0
  a0:=Tryz.isAgg0
  z0:=Tryz.sizeOf0
  v0:=Tryz.zeroValue0
  t3:=Tryz.underlying3
  a3:=Tryz.isAgg3
  z3:=Tryz.sizeOf3
  v3:=Tryz.zeroValue3
  t4:=Tryz.underlying4
  a4:=Tryz.isAgg4
  z4:=Tryz.sizeOf4
  v4:=Tryz.zeroValue4
  t5:=Tryz.underlying5
  a5:=Tryz.isAgg5
  z5:=Tryz.sizeOf5
  v5:=Tryz.zeroValue5
  t9:=Tryz.underlying9
  a9:=Tryz.isAgg9
  z9:=Tryz.sizeOf9
  v9:=Tryz.zeroValue9
  t21:=Tryz.underlying21
  a21:=Tryz.isAgg21
  z21:=Tryz.sizeOf21
  v21:=Tryz.zeroValue21
  t31:=Tryz.underlying23
  a31:=Tryz.isAgg23
  z31:=Tryz.sizeOf23
  v31:=Tryz.zeroValue23
  t46:=Tryz.underlying126
  a46:=Tryz.isAgg126
  z46:=Tryz.sizeOf126
  v46:=Tryz.zeroValue126
  t51:=Tryz.underlying42
  a51:=Tryz.isAgg42
  z51:=Tryz.sizeOf42
  v51:=Tryz.zeroValue42
  t105:=Tryz.underlying169
  a105:=Tryz.isAgg169
  z105:=Tryz.sizeOf169
  v105:=Tryz.zeroValue169
  t119:=Tryz.underlying209
  a119:=Tryz.isAgg209
  z119:=Tryz.sizeOf209
  t138:=Tryz.underlying211
  a138:=Tryz.isAgg211
  z138:=Tryz.sizeOf211
  v138:=Tryz.zeroValue211
  t139:=Tryz.underlying212
  a139:=Tryz.isAgg212
  z139:=Tryz.sizeOf212
  v139:=Tryz.zeroValue212
  t146:=Tryz.underlying197
  a146:=Tryz.isAgg197
  z146:=Tryz.sizeOf197
  v146:=Tryz.zeroValue197
  g1:=by kernel_rfl
  g3:=by kernel_rfl
  g4:=by kernel_rfl }
open Go.RowKit Go.Lib in
theorem Tryz.strings_Split (s sep : ByteArray) (m : Int) (w : World) (hs : s.size < 4294967281) (hm : w.cell? ⟨0, 0, none⟩ = some (.int .i64 m)) (h1 : 1 ≤ sep.size) :
    Calls Tryz.prog 32 #[.string s,.string sep] w fun e w'=>
      e = .returned (.slice (some ⟨w.heap.size,0,none⟩) (Lib.countB s sep + 1) (Lib.countB s sep + 1)) ∧ w' = w.alloc (.cells ((Lib.splitB sep 0 (Lib.countB s sep) s).map Value.string).toArray 9):=Any.strings_Split Tryz.lays146 (by kernel_rfl) s sep m w hs hm h1
def Tryz.lays138_ren : Go.Shelf.Ren:=⟨fun | 138=>43 | 195=>61 | 218=>62 | 143=>63 | 219=>83 | 217=>105 | 225=>106 | 224=>107 | 267=>108 | 266=>132 | 314=>133 | n=>n,fun | 9=>9 | 3=>3 | 4=>4 | 5=>5 | 0=>0 | 46=>126 | 146=>197 | 51=>42 | n=>n,fun | 1=>0 | n=>n⟩
theorem Tryz.lays138 : Go.Proofs.Lays.n138 Tryz.prog Tryz.lays138_ren:={
  mixed:=by kernel_rfl
  f138:=Tryz.func43.trans (congrArg some (by kernel_rfl))
  f143:=Tryz.func63.trans (congrArg some (by kernel_rfl))
  f195:=Tryz.func61.trans (congrArg some (by kernel_rfl))
  f217:=Tryz.func105.trans (congrArg some (by kernel_rfl))
  f218:=Tryz.func62.trans (congrArg some (by kernel_rfl))
  f219:=Tryz.func83.trans (congrArg some (by kernel_rfl))
  f224:=Tryz.func107.trans (congrArg some (by kernel_rfl))
  f225:=Tryz.func106.trans (congrArg some (by kernel_rfl))
  f266:=Tryz.func132.trans (congrArg some (by kernel_rfl))
  f267:=Tryz.func108.trans (congrArg some (by kernel_rfl))
  f314:=Tryz.func133.trans (congrArg some (by kernel_rfl))
  t0:=Tryz.underlying0
  a0:=Tryz.isAgg0
  z0:=Tryz.sizeOf0
  v0:=Tryz.zeroValue0
  t3:=Tryz.underlying3
  a3:=Tryz.isAgg3
  z3:=Tryz.sizeOf3
  v3:=Tryz.zeroValue3
  t4:=Tryz.underlying4
  a4:=Tryz.isAgg4
  z4:=Tryz.sizeOf4
  v4:=Tryz.zeroValue4
  t5:=Tryz.underlying5
  a5:=Tryz.isAgg5
  z5:=Tryz.sizeOf5
  v5:=Tryz.zeroValue5
  t9:=Tryz.underlying9
  a9:=Tryz.isAgg9
  z9:=Tryz.sizeOf9
  v9:=Tryz.zeroValue9
  t46:=Tryz.underlying126
  a46:=Tryz.isAgg126
  z46:=Tryz.sizeOf126
  v46:=Tryz.zeroValue126
  t51:=Tryz.underlying42
  a51:=Tryz.isAgg42
  z51:=Tryz.sizeOf42
  v51:=Tryz.zeroValue42
  t146:=Tryz.underlying197
  a146:=Tryz.isAgg197
  z146:=Tryz.sizeOf197
  v146:=Tryz.zeroValue197
  g1:=by kernel_rfl }
open Go.RowKit Go.Lib in
theorem Tryz.strings_Count_any (s sep : ByteArray) (m : Int) (w : World) (hs : s.size < 4294967281) (hm : w.cell? ⟨0, 0, none⟩ = some (.int .i64 m)) (h1 : 1 ≤ sep.size) :
    Calls Tryz.prog 43 #[.string s,.string sep] w fun e w'=>e = .returned (.int .i64 (Lib.countB s sep)) ∧ w' = w:=Any.strings_Count_any Tryz.lays138 s sep m w hs hm h1
def Tryz.lays145_ren : Go.Shelf.Ren:=⟨fun | 145=>64 | 220=>84 | 219=>83 | 217=>105 | 225=>106 | 224=>107 | 267=>108 | 266=>132 | 314=>133 | n=>n,fun | 9=>9 | 4=>4 | 59=>130 | 3=>3 | 5=>5 | 46=>126 | 146=>197 | 51=>42 | n=>n,fun | 1=>0 | n=>n⟩
theorem Tryz.lays145 : Go.Proofs.Lays.n145 Tryz.prog Tryz.lays145_ren:={
  mixed:=by kernel_rfl
  f145:=Tryz.func64.trans (congrArg some (by kernel_rfl))
  f217:=Tryz.func105.trans (congrArg some (by kernel_rfl))
  f219:=Tryz.func83.trans (congrArg some (by kernel_rfl))
  f220:=Tryz.func84.trans (congrArg some (by kernel_rfl))
  f224:=Tryz.func107.trans (congrArg some (by kernel_rfl))
  f225:=Tryz.func106.trans (congrArg some (by kernel_rfl))
  f266:=Tryz.func132.trans (congrArg some (by kernel_rfl))
  f267:=Tryz.func108.trans (congrArg some (by kernel_rfl))
  f314:=Tryz.func133.trans (congrArg some (by kernel_rfl))
  t3:=Tryz.underlying3
  a3:=Tryz.isAgg3
  z3:=Tryz.sizeOf3
  v3:=Tryz.zeroValue3
  t4:=Tryz.underlying4
  a4:=Tryz.isAgg4
  z4:=Tryz.sizeOf4
  v4:=Tryz.zeroValue4
  t5:=Tryz.underlying5
  a5:=Tryz.isAgg5
  z5:=Tryz.sizeOf5
  v5:=Tryz.zeroValue5
  t9:=Tryz.underlying9
  a9:=Tryz.isAgg9
  z9:=Tryz.sizeOf9
  v9:=Tryz.zeroValue9
  t46:=Tryz.underlying126
  a46:=Tryz.isAgg126
  z46:=Tryz.sizeOf126
  v46:=Tryz.zeroValue126
  t51:=Tryz.underlying42
  a51:=Tryz.isAgg42
  z51:=Tryz.sizeOf42
  v51:=Tryz.zeroValue42
  t59:=Tryz.underlying130
  a59:=Tryz.isAgg130
  z59:=Tryz.sizeOf130
  v59:=Tryz.zeroValue130
  t146:=Tryz.underlying197
  a146:=Tryz.isAgg197
  z146:=Tryz.sizeOf197
  v146:=Tryz.zeroValue197
  g1:=by kernel_rfl }
open Go.RowKit Go.Lib in
theorem Tryz.strings_Cut (s sep : ByteArray) (m : Int) (w : World) (hs : s.size < 4294967281) (hm : w.cell? ⟨0, 0, none⟩ = some (.int .i64 m)) :
    Calls Tryz.prog 64 #[.string s,.string sep] w fun e w'=>e = .returned (.tuple #[.string ⟨(Lib.cut s.data.toList sep.data.toList).1.toArray⟩,.string ⟨(Lib.cut s.data.toList sep.data.toList).2.1.toArray⟩,.bool (Lib.cut s.data.toList sep.data.toList).2.2]) ∧ ∃ n,w' = w.drewN n:=Any.strings_Cut Tryz.lays145 s sep m w hs hm
def Tryz.lays104_ren : Go.Shelf.Ren:=⟨fun | 104=>33 | 211=>50 | 207=>73 | n=>n,fun | 9=>9 | 4=>4 | 24=>91 | 3=>3 | n=>n,fun | n=>n⟩
theorem Tryz.lays104 : Go.Proofs.Lays.n104 Tryz.prog Tryz.lays104_ren:={
  mixed:=by kernel_rfl
  f104:=Tryz.func33.trans (congrArg some (by kernel_rfl))
  f207:=Tryz.func73.trans (congrArg some (by kernel_rfl))
  f211:=Tryz.func50.trans (congrArg some (by kernel_rfl))
  t3:=Tryz.underlying3
  a3:=Tryz.isAgg3
  z3:=Tryz.sizeOf3
  v3:=Tryz.zeroValue3
  t4:=Tryz.underlying4
  a4:=Tryz.isAgg4
  z4:=Tryz.sizeOf4
  v4:=Tryz.zeroValue4
  t9:=Tryz.underlying9
  a9:=Tryz.isAgg9
  z9:=Tryz.sizeOf9
  v9:=Tryz.zeroValue9
  t24:=Tryz.underlying91
  a24:=Tryz.isAgg91
  z24:=Tryz.sizeOf91
  v24:=Tryz.zeroValue91 }
open Go.RowKit in
theorem Tryz.strings_CutSuffix (s p : ByteArray) (w : World) (hs : s.size ≤ 9223372036854775807) :
    Calls Tryz.prog 33 #[.string s,.string p] w fun e w'=>e = .returned (.tuple #[.string ⟨(Lib.trimSuffix s.data.toList p.data.toList).toArray⟩,.bool (Lib.hasSuffix s.data.toList p.data.toList)]) ∧ w' = w:=Any.strings_CutSuffix Tryz.lays104 s p w hs
def Tryz.lays137_ren : Go.Shelf.Ren:=⟨fun | 137=>172 | 217=>105 | 266=>132 | n=>n,fun | 9=>9 | 5=>5 | 3=>3 | n=>n,fun | n=>n⟩
theorem Tryz.lays137 : Go.Proofs.Lays.n137 Tryz.prog Tryz.lays137_ren:={
  mixed:=by kernel_rfl
  f137:=Tryz.func172.trans (congrArg some (by kernel_rfl))
  f217:=Tryz.func105.trans (congrArg some (by kernel_rfl))
  f266:=Tryz.func132.trans (congrArg some (by kernel_rfl))
  t3:=Tryz.underlying3
  a3:=Tryz.isAgg3
  z3:=Tryz.sizeOf3
  v3:=Tryz.zeroValue3
  t5:=Tryz.underlying5
  a5:=Tryz.isAgg5
  z5:=Tryz.sizeOf5
  v5:=Tryz.zeroValue5
  t9:=Tryz.underlying9
  a9:=Tryz.isAgg9
  z9:=Tryz.sizeOf9
  v9:=Tryz.zeroValue9 }
open Go.RowKit in
theorem Tryz.strings_IndexByte (s : ByteArray) (c : Int) (w : World) :
    Calls Tryz.prog 172 #[.string s,.int .u8 c] w fun e w'=>e = .returned (.int .i64 (Lib.indexByte s.data.toList c.toNat.toUInt8)) ∧ w' = w:=Any.strings_IndexByte Tryz.lays137 s c w
def Tryz.lays189_ren : Go.Shelf.Ren:=⟨fun | 189=>139 | 125=>151 | 257=>150 | 128=>163 | 129=>164 | 294=>154 | 295=>155 | 296=>156 | 297=>157 | 298=>158 | 299=>159 | 216=>160 | 300=>161 | 301=>162 | 328=>166 | 329=>167 | 330=>168 | 331=>169 | 332=>170 | 215=>171 | 343=>173 | n=>n,fun | 28=>38 | 3=>3 | 46=>126 | 0=>0 | 51=>42 | 53=>229 | 4=>4 | 183=>221 | 182=>220 | 131=>168 | 5=>5 | 9=>9 | 218=>230 | 222=>152 | 228=>235 | 229=>124 | n=>n,fun | n=>n⟩
theorem Tryz.lays189 : Go.Proofs.Lays.n189 Tryz.prog Tryz.lays189_ren:={
  mixed:=by kernel_rfl
  f125:=Tryz.func151.trans (congrArg some (by kernel_rfl))
  f128:=Tryz.func163.trans (congrArg some (by kernel_rfl))
  f129:=Tryz.func164.trans (congrArg some (by kernel_rfl))
  f189:=Tryz.func139.trans (congrArg some (by kernel_rfl))
  f215:=Tryz.func171.trans (congrArg some (by kernel_rfl))
  f216:=Tryz.func160.trans (congrArg some (by kernel_rfl))
  f257:=Tryz.func150.trans (congrArg some (by kernel_rfl))
  f294:=Tryz.func154.trans (congrArg some (by kernel_rfl))
  f295:=Tryz.func155.trans (congrArg some (by kernel_rfl))
  f296:=Tryz.func156.trans (congrArg some (by kernel_rfl))
  f297:=Tryz.func157.trans (congrArg some (by kernel_rfl))
  f298:=Tryz.func158.trans (congrArg some (by kernel_rfl))
  f299:=Tryz.func159.trans (congrArg some (by kernel_rfl))
  f300:=Tryz.func161.trans (congrArg some (by kernel_rfl))
  f301:=Tryz.func162.trans (congrArg some (by kernel_rfl))
  f328:=Tryz.func166.trans (congrArg some (by kernel_rfl))
  f329:=Tryz.func167.trans (congrArg some (by kernel_rfl))
  f330:=Tryz.func168.trans (congrArg some (by kernel_rfl))
  f331:=Tryz.func169.trans (congrArg some (by kernel_rfl))
  f332:=Tryz.func170.trans (congrArg some (by kernel_rfl))
  f343:=Tryz.func173.trans (congrArg some (by kernel_rfl))
  t0:=Tryz.underlying0
  a0:=Tryz.isAgg0
  z0:=Tryz.sizeOf0
  v0:=Tryz.zeroValue0
  t3:=Tryz.underlying3
  a3:=Tryz.isAgg3
  z3:=Tryz.sizeOf3
  v3:=Tryz.zeroValue3
  t4:=Tryz.underlying4
  a4:=Tryz.isAgg4
  z4:=Tryz.sizeOf4
  v4:=Tryz.zeroValue4
  t5:=Tryz.underlying5
  a5:=Tryz.isAgg5
  z5:=Tryz.sizeOf5
  v5:=Tryz.zeroValue5
  t9:=Tryz.underlying9
  a9:=Tryz.isAgg9
  z9:=Tryz.sizeOf9
  v9:=Tryz.zeroValue9
  t28:=Tryz.underlying38
  a28:=Tryz.isAgg38
  z28:=Tryz.sizeOf38
  v28:=Tryz.zeroValue38
  t46:=Tryz.underlying126
  a46:=Tryz.isAgg126
  z46:=Tryz.sizeOf126
  v46:=Tryz.zeroValue126
  t51:=Tryz.underlying42
  a51:=Tryz.isAgg42
  z51:=Tryz.sizeOf42
  v51:=Tryz.zeroValue42
  t53:=Tryz.underlying229
  a53:=Tryz.isAgg229
  z53:=Tryz.sizeOf229
  v53:=Tryz.zeroValue229
  t131:=Tryz.underlying168
  a131:=Tryz.isAgg168
  z131:=Tryz.sizeOf168
  v131:=Tryz.zeroValue168
  t182:=Tryz.underlying220
  a182:=Tryz.isAgg220
  z182:=Tryz.sizeOf220
  v182:=Tryz.zeroValue220
  t183:=Tryz.underlying221
  a183:=Tryz.isAgg221
  z183:=Tryz.sizeOf221
  v183:=Tryz.zeroValue221
  t218:=Tryz.underlying230
  a218:=Tryz.isAgg230
  z218:=Tryz.sizeOf230
  v218:=Tryz.zeroValue230
  t222:=Tryz.underlying152
  a222:=Tryz.isAgg152
  z222:=Tryz.sizeOf152
  v222:=Tryz.zeroValue152
  t228:=Tryz.underlying235
  a228:=Tryz.isAgg235
  z228:=Tryz.sizeOf235
  v228:=Tryz.zeroValue235
  t229:=Tryz.underlying124
  a229:=Tryz.isAgg124
  z229:=Tryz.sizeOf124
  v229:=Tryz.zeroValue124 }
open Go.Sort Go.RowKit in
theorem Tryz.slices_Sort_int (blk off cap : Nat) (zs : List Int) (w : World) (hH : Holds (Value.int .i64) w blk off zs.toArray) (hblk : blk < w.heap.size) (hsz : zs.length < 4611686018427387904) :
    Calls Tryz.prog 139 #[.slice (some ⟨blk,off,none⟩) zs.length cap] w fun e w'=>
      e = .returned (.tuple #[]) ∧ ∃ n os,w' = grow (putRow (Value.int .i64) (Sort.ahead w n) blk off (zs.mergeSort fun x y=>decide (x ≤ y)).toArray) os:=Any.slices_Sort_int Tryz.lays189 blk off cap zs w hH hblk hsz
open Go.RowKit Go.Sort in
theorem Tryz.slices_Sort_int_none (p : Option Addr) (cap : Nat) (w : World) :
    Calls Tryz.prog 139 #[.slice p 0 cap] w fun e w'=>e = .returned (.tuple #[]) ∧ w' = w:=Any.slices_Sort_int_none Tryz.lays189 p cap w
def Tryz.laysNm220_ren : Go.Shelf.Ren:=⟨fun | 20=>140 | n=>n,fun | 22=>38 | 3=>3 | 4=>4 | 0=>0 | n=>n,fun | n=>n⟩
theorem Tryz.laysNm220 : Go.Proofs.Lays2.n20 Tryz.prog Tryz.laysNm220_ren:={
  mixed:=by kernel_rfl
  f20:=Tryz.func140.trans (congrArg some (by kernel_rfl))
  t0:=Tryz.underlying0
  a0:=Tryz.isAgg0
  z0:=Tryz.sizeOf0
  v0:=Tryz.zeroValue0
  t3:=Tryz.underlying3
  a3:=Tryz.isAgg3
  z3:=Tryz.sizeOf3
  v3:=Tryz.zeroValue3
  t4:=Tryz.underlying4
  a4:=Tryz.isAgg4
  z4:=Tryz.sizeOf4
  v4:=Tryz.zeroValue4
  t22:=Tryz.underlying38
  a22:=Tryz.isAgg38
  z22:=Tryz.sizeOf38
  v22:=Tryz.zeroValue38
  i3:=by kernel_rfl }
open Go.RowKit Go.Lib Go.Sort in
theorem Tryz.slices_Compact_int (blk off cap : Nat) (zs : List Int) (w : World) (hH : Holds (Value.int .i64) w blk off zs.toArray) (hsz : zs.length ≤ 9223372036854775807) (hcap : zs.length ≤ cap) :
    Calls Tryz.prog 140 #[.slice (some ⟨blk,off,none⟩) zs.length cap] w fun e w'=>e = .returned (.slice (some ⟨blk,off,none⟩) (Lib.compact zs).length cap) ∧ ∃ q,w' = putRow (Value.int .i64) (Sort.ahead w q) blk off (Lib.compact zs ++ List.replicate (zs.length - (Lib.compact zs).length) 0).toArray:=Any.slices_Compact_int Tryz.laysNm220 blk off cap zs w hH hsz hcap
open Go.RowKit Go.Lib Go.Sort in
theorem Tryz.slices_Compact_int_empty (a : Option Addr) (cap : Nat) (w : World) :
    Calls Tryz.prog 140 #[.slice a 0 cap] w fun e w'=>e = .returned (.slice a 0 cap) ∧ w' = w:=Any.slices_Compact_int_empty Tryz.laysNm220 a cap w
end Go.Proofs
end
section
namespace Go.Proofs.W
open Go Vm Go.Proofs.Zs25
theorem extA [Base] : ∀ (f : FuncId) (k : ExtK),A.bl f = some k → ∃ fn,ExtFn Tryz.prog f k fn:=by
  intro f k h
  simp only [A] at h
  split at h
  · rename_i e;subst e;cases h
    exact ⟨Tryz.f55,Tryz.func55,by kernel_rfl,by kernel_rfl,by kernel_rfl,(show Extern.find Tryz.f55 = some (Extern.Atomic.update (Op.intArith .add) .i64 true) by kernel_rfl)⟩
  split at h
  · rename_i e;subst e;cases h
    exact ⟨Tryz.f56,Tryz.func56,by kernel_rfl,by kernel_rfl,by kernel_rfl,(show Extern.find Tryz.f56 = some (Extern.Atomic.loadT (.int .i64)) by kernel_rfl)⟩
  split at h
  · rename_i e;subst e;cases h
    exact ⟨Tryz.f74,Tryz.func74,by kernel_rfl,by kernel_rfl,by kernel_rfl,(show Extern.find Tryz.f74 = some (Extern.Atomic.loadT (.int .u32)) by kernel_rfl)⟩
  split at h
  · rename_i e;subst e;cases h
    exact ⟨Tryz.f98,Tryz.func98,by kernel_rfl,by kernel_rfl,by kernel_rfl,(show Extern.find Tryz.f98 = some (Extern.Atomic.storeT) by kernel_rfl)⟩
  split at h
  · rename_i e;subst e;cases h
    exact ⟨Tryz.f124,Tryz.func124,by kernel_rfl,by kernel_rfl,by kernel_rfl,⟨.disable,by kernel_rfl⟩⟩
  split at h
  · rename_i e;subst e;cases h
    exact ⟨Tryz.f125,Tryz.func125,by kernel_rfl,by kernel_rfl,by kernel_rfl,(show Extern.find Tryz.f125 = some (Extern.Atomic.casT (.int .i32)) by kernel_rfl)⟩
  split at h
  · rename_i e;subst e;cases h
    exact ⟨Tryz.f126,Tryz.func126,by kernel_rfl,by kernel_rfl,by kernel_rfl,⟨.enable,by kernel_rfl⟩⟩
  split at h
  · rename_i e;subst e;cases h
    exact ⟨Tryz.f127,Tryz.func127,by kernel_rfl,by kernel_rfl,by kernel_rfl,⟨.acquire,by kernel_rfl⟩⟩
  split at h
  · rename_i e;subst e;cases h
    exact ⟨Tryz.f129,Tryz.func129,by kernel_rfl,by kernel_rfl,by kernel_rfl,⟨.releaseMerge,by kernel_rfl⟩⟩
  split at h
  · rename_i e;subst e;cases h
    exact ⟨Tryz.f130,Tryz.func130,by kernel_rfl,by kernel_rfl,by kernel_rfl,(show Extern.find Tryz.f130 = some (Extern.Atomic.update (Op.intArith .add) .i32 true) by kernel_rfl)⟩
  · cases h
theorem primA [Base] (hB : ∃ m,Base.B 0 0 = some (.int .i64 m)) : PrimOk Tryz.prog A:=by
  refine ⟨extA,fun f g h args H d hd ρ im w vs hR hvs=>?_,?_⟩
  · simp only [A] at h
    split at h
    · rename_i e;subst e;cases h
      exact rule_calls hd hR hvs
    · cases h
  intro f p h args H r hr ρ im w vs hR hvs
  simp only [A] at h
  split at h
  · rename_i e;subst e;cases h
    exact pSplit_at (g:=0) hB (fun s sep m w h1 h2 h3=>Tryz.strings_Split s sep m w h1 h2 h3) args H r hr ρ im w vs hR hvs
  split at h
  · rename_i e;subst e;cases h
    exact pCount_at (g:=0) hB (fun s sep m w h1 h2 h3=>Tryz.strings_Count_any s sep m w h1 h2 h3) args H r hr ρ im w vs hR hvs
  split at h
  · rename_i e;subst e;cases h
    exact pCut_at (g:=0) hB (fun s sep m w h1 h2=>Tryz.strings_Cut s sep m w h1 h2) args H r hr ρ im w vs hR hvs
  split at h
  · rename_i e;subst e;cases h
    exact pCutSuffix_at (fun s p w h1=>Tryz.strings_CutSuffix s p w h1) args H r hr ρ im w vs hR hvs
  split at h
  · rename_i e;subst e;cases h
    exact pIndexByte_at (fun s c w=>Tryz.strings_IndexByte s c w) args H r hr ρ im w vs hR hvs
  split at h
  · rename_i e;subst e;cases h
    exact pSort_at (fun blk cap zs w h1 h2 h3=>Tryz.slices_Sort_int blk 0 cap zs w h1 h2 h3) (fun p cap w=>Tryz.slices_Sort_int_none p cap w) args H r hr ρ im w vs hR hvs
  split at h
  · rename_i e;subst e;cases h
    exact pCompact_at (fun blk cap zs w h1 h2 h3=>Tryz.slices_Compact_int blk 0 cap zs w h1 h2 h3) (fun p cap w=>Tryz.slices_Compact_int_empty p cap w) args H r hr ρ im w vs hR hvs
  · cases h
end Go.Proofs.W
end
section
namespace Go.Proofs.W
open Go Vm Go.Proofs.Zs25
inductive Rx where
  | mk (k s : Int) (kids : List Rx)
  deriving Inhabited
def Rx.k : Rx → Int | .mk k _ _=>k
def Rx.s : Rx → Int | .mk _ s _=>s
def Rx.kids : Rx → List Rx | .mk _ _ l=>l
mutual
def rxD : Rx → D
  | .mk k s l=>.agg [.int .u8 k,.int .u16 s,.sl false (rxDs l)]
def rxDs : List Rx → List D
  | []=>[]
  | r :: l=>rxD r :: rxDs l
end
theorem rxDs_map (l : List Rx) : rxDs l = l.map rxD:=by
  induction l with
  | nil=>rfl
  | cons r l ih=>simp [rxDs,ih]
mutual
theorem strip_rx : ∀ r : Rx,strip (rxD r) = some (rxD r)
  | .mk k s l=>by simp [rxD,strip,stripL,strip_rxs l]
theorem strip_rxs : ∀ l : List Rx,stripL (rxDs l) = some (rxDs l)
  | []=>rfl
  | r :: l=>by simp [rxDs,stripL,strip_rx r,strip_rxs l]
end
theorem rx_cells (r : Rx) : (rxD r).cells.length = 3:=by cases r;rfl
theorem rx_aggQ (r : Rx) : aggQ (rxD r) = true:=by cases r;rfl
theorem rx_noTup (r : Rx) : noTup (rxD r) = true:=by cases r;rfl
theorem rxDs_len (l : List Rx) : (rxDs l).length = l.length:=by rw [rxDs_map];simp
theorem rxDs_at (l : List Rx) (i : Nat) : (rxDs l)[i]? = (l[i]?).map rxD:=by rw [rxDs_map];simp
theorem rx_mk (k s : Int) (l : List Rx) : rxD (.mk k s l) = .agg [.int .u8 k,.int .u16 s,.sl false (rxDs l)]:=rfl
attribute [go_sem] rx_cells rx_aggQ rx_noTup rxDs_len rxDs_at rx_mk
mutual
def okR : Rx → Prop
  | .mk k s l=>0 ≤ k ∧ k < 256 ∧ 0 ≤ s ∧ s < 65536 ∧ l.length ≤ 140737488355328 ∧ okL l
def okL : List Rx → Prop
  | []=>True
  | r :: l=>okR r ∧ okL l
end
theorem okL_get : ∀ {l : List Rx},okL l → ∀ r ∈ l,okR r
  | [],_,r,h=>by cases h
  | x :: l,⟨h1,h2⟩,r,h=>by
    rcases List.mem_cons.1 h with rfl | h
    · exact h1
    · exact okL_get h2 r h
end Go.Proofs.W
end
