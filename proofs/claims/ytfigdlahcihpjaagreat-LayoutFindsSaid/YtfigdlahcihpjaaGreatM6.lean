/- Texts that stand behind this claim, one after the other. -/
import Derived.Test.YtfigdlahcihpjaaGreatProg
import Derived.Test.YtfigdlahcihpjaaGreatM5
import Derived.KernelRfl
import Derived.Test.YtfigdlahcihpjaaGreatM3
import Derived.Carry
import Derived.ProofKit
import Derived.Shelf.Strings.Split
import Derived.Shelf.Strings.Cut
import Derived.Shelf.Small.Wraps
import Derived.Shelf.Strings.Prefix
import Derived.Shelf.Sort.Plain
import Derived.Shelf.Slices.CompactI
/- Facts on the types and functions of this seat, by program. -/
section
set_option linter.unusedVariables false
namespace Go.Proofs.Zs14
open Go Vm
theorem sz1 : sizeT Tryz.prog 1 = some 1 := by kernel_rfl
theorem ag1 : isAggT Tryz.prog 1 = some false := by kernel_rfl
theorem zr1 : zeroT Tryz.prog 1 = some (.niln) := by kernel_rfl
theorem by1 : bytesT Tryz.prog 1 = some 8 := by kernel_rfl
theorem un2 : Tryz.prog.underlying 2 = some (.int .i64) := by kernel_rfl
theorem sz2 : sizeT Tryz.prog 2 = some 1 := by kernel_rfl
theorem ag2 : isAggT Tryz.prog 2 = some false := by kernel_rfl
theorem zr2 : zeroT Tryz.prog 2 = some (.int .i64 0) := by kernel_rfl
theorem by2 : bytesT Tryz.prog 2 = some 8 := by kernel_rfl
theorem un3 : Tryz.prog.underlying 3 = some (.int .i64) := by kernel_rfl
theorem sz3 : sizeT Tryz.prog 3 = some 1 := by kernel_rfl
theorem ag3 : isAggT Tryz.prog 3 = some false := by kernel_rfl
theorem zr3 : zeroT Tryz.prog 3 = some (.int .i64 0) := by kernel_rfl
theorem by3 : bytesT Tryz.prog 3 = some 8 := by kernel_rfl
theorem un4 : Tryz.prog.underlying 4 = some .bool := by kernel_rfl
theorem sz4 : sizeT Tryz.prog 4 = some 1 := by kernel_rfl
theorem ag4 : isAggT Tryz.prog 4 = some false := by kernel_rfl
theorem zr4 : zeroT Tryz.prog 4 = some (.bool false) := by kernel_rfl
theorem by4 : bytesT Tryz.prog 4 = some 1 := by kernel_rfl
theorem un5 : Tryz.prog.underlying 5 = some (.int .u8) := by kernel_rfl
theorem sz5 : sizeT Tryz.prog 5 = some 1 := by kernel_rfl
theorem ag5 : isAggT Tryz.prog 5 = some false := by kernel_rfl
theorem zr5 : zeroT Tryz.prog 5 = some (.int .u8 0) := by kernel_rfl
theorem by5 : bytesT Tryz.prog 5 = some 1 := by kernel_rfl
theorem un9 : Tryz.prog.underlying 9 = some .string := by kernel_rfl
theorem sz9 : sizeT Tryz.prog 9 = some 1 := by kernel_rfl
theorem ag9 : isAggT Tryz.prog 9 = some false := by kernel_rfl
theorem zr9 : zeroT Tryz.prog 9 = some (.str []) := by kernel_rfl
theorem by9 : bytesT Tryz.prog 9 = some 16 := by kernel_rfl
theorem sz20 : sizeT Tryz.prog 20 = some 1 := by kernel_rfl
theorem ag20 : isAggT Tryz.prog 20 = some false := by kernel_rfl
theorem zr20 : zeroT Tryz.prog 20 = some (.nili) := by kernel_rfl
theorem by20 : bytesT Tryz.prog 20 = some 16 := by kernel_rfl
theorem un21 : Tryz.prog.underlying 21 = some (.int .i32) := by kernel_rfl
theorem sz21 : sizeT Tryz.prog 21 = some 1 := by kernel_rfl
theorem ag21 : isAggT Tryz.prog 21 = some false := by kernel_rfl
theorem zr21 : zeroT Tryz.prog 21 = some (.int .i32 0) := by kernel_rfl
theorem by21 : bytesT Tryz.prog 21 = some 4 := by kernel_rfl
theorem un22 : Tryz.prog.underlying 22 = some (.slice 32) := by kernel_rfl
theorem sz22 : sizeT Tryz.prog 22 = some 1 := by kernel_rfl
theorem ag22 : isAggT Tryz.prog 22 = some false := by kernel_rfl
theorem zr22 : zeroT Tryz.prog 22 = some (.sl true []) := by kernel_rfl
theorem by22 : bytesT Tryz.prog 22 = some 24 := by kernel_rfl
theorem el22 : elemT Tryz.prog 22 = some 32 := by kernel_rfl
theorem un23 : Tryz.prog.underlying 23 = some (.slice 30) := by kernel_rfl
theorem sz23 : sizeT Tryz.prog 23 = some 1 := by kernel_rfl
theorem ag23 : isAggT Tryz.prog 23 = some false := by kernel_rfl
theorem zr23 : zeroT Tryz.prog 23 = some (.sl true []) := by kernel_rfl
theorem by23 : bytesT Tryz.prog 23 = some 24 := by kernel_rfl
theorem el23 : elemT Tryz.prog 23 = some 30 := by kernel_rfl
theorem un24 : Tryz.prog.underlying 24 = some (.slice 67) := by kernel_rfl
theorem sz24 : sizeT Tryz.prog 24 = some 1 := by kernel_rfl
theorem ag24 : isAggT Tryz.prog 24 = some false := by kernel_rfl
theorem zr24 : zeroT Tryz.prog 24 = some (.sl true []) := by kernel_rfl
theorem by24 : bytesT Tryz.prog 24 = some 24 := by kernel_rfl
theorem el24 : elemT Tryz.prog 24 = some 67 := by kernel_rfl
theorem sz25 : sizeT Tryz.prog 25 = some 3 := by kernel_rfl
theorem ag25 : isAggT Tryz.prog 25 = some true := by kernel_rfl
theorem by25 : bytesT Tryz.prog 25 = some 72 := by kernel_rfl
theorem fd25_0 : fieldT Tryz.prog 25 0 = some (0, 22) := by kernel_rfl
theorem fd25_1 : fieldT Tryz.prog 25 1 = some (1, 23) := by kernel_rfl
theorem fd25_2 : fieldT Tryz.prog 25 2 = some (2, 24) := by kernel_rfl
theorem sz26 : sizeT Tryz.prog 26 = some 3 := by kernel_rfl
theorem ag26 : isAggT Tryz.prog 26 = some true := by kernel_rfl
theorem by26 : bytesT Tryz.prog 26 = some 72 := by kernel_rfl
theorem fd26_0 : fieldT Tryz.prog 26 0 = some (0, 22) := by kernel_rfl
theorem fd26_1 : fieldT Tryz.prog 26 1 = some (1, 23) := by kernel_rfl
theorem fd26_2 : fieldT Tryz.prog 26 2 = some (2, 24) := by kernel_rfl
theorem un27 : Tryz.prog.underlying 27 = some (.slice 3) := by kernel_rfl
theorem sz27 : sizeT Tryz.prog 27 = some 1 := by kernel_rfl
theorem ag27 : isAggT Tryz.prog 27 = some false := by kernel_rfl
theorem zr27 : zeroT Tryz.prog 27 = some (.sl true []) := by kernel_rfl
theorem by27 : bytesT Tryz.prog 27 = some 24 := by kernel_rfl
theorem el27 : elemT Tryz.prog 27 = some 3 := by kernel_rfl
theorem sz28 : sizeT Tryz.prog 28 = some 1 := by kernel_rfl
theorem ag28 : isAggT Tryz.prog 28 = some false := by kernel_rfl
theorem zr28 : zeroT Tryz.prog 28 = some (.niln) := by kernel_rfl
theorem by28 : bytesT Tryz.prog 28 = some 8 := by kernel_rfl
theorem sz29 : sizeT Tryz.prog 29 = some 2 := by kernel_rfl
theorem ag29 : isAggT Tryz.prog 29 = some true := by kernel_rfl
theorem zr29 : zeroT Tryz.prog 29 = some (.agg [.str [], .sl true []]) := by kernel_rfl
theorem by29 : bytesT Tryz.prog 29 = some 40 := by kernel_rfl
theorem fd29_0 : fieldT Tryz.prog 29 0 = some (0, 9) := by kernel_rfl
theorem fd29_1 : fieldT Tryz.prog 29 1 = some (1, 27) := by kernel_rfl
theorem bd29 (ps : List (Nat × D)) : buildD Tryz.prog 29 ps = (fillD (fun i => ([(0, 1), (1, 1)] : List (Nat × Nat))[i]?) (D.cells (.agg [.str [], .sl true []])) ps).map .agg := by kernel_rfl
theorem sz30 : sizeT Tryz.prog 30 = some 2 := by kernel_rfl
theorem ag30 : isAggT Tryz.prog 30 = some true := by kernel_rfl
theorem zr30 : zeroT Tryz.prog 30 = some (.agg [.str [], .sl true []]) := by kernel_rfl
theorem by30 : bytesT Tryz.prog 30 = some 40 := by kernel_rfl
theorem fd30_0 : fieldT Tryz.prog 30 0 = some (0, 9) := by kernel_rfl
theorem fd30_1 : fieldT Tryz.prog 30 1 = some (1, 27) := by kernel_rfl
theorem bd30 (ps : List (Nat × D)) : buildD Tryz.prog 30 ps = (fillD (fun i => ([(0, 1), (1, 1)] : List (Nat × Nat))[i]?) (D.cells (.agg [.str [], .sl true []])) ps).map .agg := by kernel_rfl
theorem sz31 : sizeT Tryz.prog 31 = some 2 := by kernel_rfl
theorem ag31 : isAggT Tryz.prog 31 = some true := by kernel_rfl
theorem zr31 : zeroT Tryz.prog 31 = some (.agg [.str [], .sl true []]) := by kernel_rfl
theorem by31 : bytesT Tryz.prog 31 = some 40 := by kernel_rfl
theorem fd31_0 : fieldT Tryz.prog 31 0 = some (0, 9) := by kernel_rfl
theorem fd31_1 : fieldT Tryz.prog 31 1 = some (1, 27) := by kernel_rfl
theorem bd31 (ps : List (Nat × D)) : buildD Tryz.prog 31 ps = (fillD (fun i => ([(0, 1), (1, 1)] : List (Nat × Nat))[i]?) (D.cells (.agg [.str [], .sl true []])) ps).map .agg := by kernel_rfl
theorem sz32 : sizeT Tryz.prog 32 = some 2 := by kernel_rfl
theorem ag32 : isAggT Tryz.prog 32 = some true := by kernel_rfl
theorem zr32 : zeroT Tryz.prog 32 = some (.agg [.str [], .sl true []]) := by kernel_rfl
theorem by32 : bytesT Tryz.prog 32 = some 40 := by kernel_rfl
theorem fd32_0 : fieldT Tryz.prog 32 0 = some (0, 9) := by kernel_rfl
theorem fd32_1 : fieldT Tryz.prog 32 1 = some (1, 27) := by kernel_rfl
theorem bd32 (ps : List (Nat × D)) : buildD Tryz.prog 32 ps = (fillD (fun i => ([(0, 1), (1, 1)] : List (Nat × Nat))[i]?) (D.cells (.agg [.str [], .sl true []])) ps).map .agg := by kernel_rfl
theorem sz34 : sizeT Tryz.prog 34 = some 1 := by kernel_rfl
theorem ag34 : isAggT Tryz.prog 34 = some false := by kernel_rfl
theorem zr34 : zeroT Tryz.prog 34 = some (.niln) := by kernel_rfl
theorem by34 : bytesT Tryz.prog 34 = some 8 := by kernel_rfl
theorem sz35 : sizeT Tryz.prog 35 = some 1 := by kernel_rfl
theorem ag35 : isAggT Tryz.prog 35 = some false := by kernel_rfl
theorem zr35 : zeroT Tryz.prog 35 = some (.niln) := by kernel_rfl
theorem by35 : bytesT Tryz.prog 35 = some 8 := by kernel_rfl
theorem sz36 : sizeT Tryz.prog 36 = some 1 := by kernel_rfl
theorem ag36 : isAggT Tryz.prog 36 = some false := by kernel_rfl
theorem zr36 : zeroT Tryz.prog 36 = some (.niln) := by kernel_rfl
theorem by36 : bytesT Tryz.prog 36 = some 8 := by kernel_rfl
theorem sz37 : sizeT Tryz.prog 37 = some 1 := by kernel_rfl
theorem ag37 : isAggT Tryz.prog 37 = some false := by kernel_rfl
theorem zr37 : zeroT Tryz.prog 37 = some (.niln) := by kernel_rfl
theorem by37 : bytesT Tryz.prog 37 = some 8 := by kernel_rfl
theorem sz39 : sizeT Tryz.prog 39 = some 1 := by kernel_rfl
theorem ag39 : isAggT Tryz.prog 39 = some false := by kernel_rfl
theorem zr39 : zeroT Tryz.prog 39 = some (.niln) := by kernel_rfl
theorem by39 : bytesT Tryz.prog 39 = some 8 := by kernel_rfl
theorem un40 : Tryz.prog.underlying 40 = some (.slice 5) := by kernel_rfl
theorem sz40 : sizeT Tryz.prog 40 = some 1 := by kernel_rfl
theorem ag40 : isAggT Tryz.prog 40 = some false := by kernel_rfl
theorem zr40 : zeroT Tryz.prog 40 = some (.sl true []) := by kernel_rfl
theorem by40 : bytesT Tryz.prog 40 = some 24 := by kernel_rfl
theorem el40 : elemT Tryz.prog 40 = some 5 := by kernel_rfl
theorem un41 : Tryz.prog.underlying 41 = some (.array 2 9) := by kernel_rfl
theorem sz41 : sizeT Tryz.prog 41 = some 2 := by kernel_rfl
theorem ag41 : isAggT Tryz.prog 41 = some true := by kernel_rfl
theorem zr41 : zeroT Tryz.prog 41 = some (.agg [.str [], .str []]) := by kernel_rfl
theorem by41 : bytesT Tryz.prog 41 = some 32 := by kernel_rfl
theorem bd41 (ps : List (Nat × D)) : buildD Tryz.prog 41 ps = (fillD (fun i => some (i * 1, 1)) (D.cells (.agg [.str [], .str []])) ps).map .agg := by kernel_rfl
theorem sz42 : sizeT Tryz.prog 42 = some 1 := by kernel_rfl
theorem ag42 : isAggT Tryz.prog 42 = some false := by kernel_rfl
theorem zr42 : zeroT Tryz.prog 42 = some (.niln) := by kernel_rfl
theorem by42 : bytesT Tryz.prog 42 = some 8 := by kernel_rfl
theorem sz43 : sizeT Tryz.prog 43 = some 1 := by kernel_rfl
theorem ag43 : isAggT Tryz.prog 43 = some false := by kernel_rfl
theorem zr43 : zeroT Tryz.prog 43 = some (.niln) := by kernel_rfl
theorem by43 : bytesT Tryz.prog 43 = some 8 := by kernel_rfl
theorem ag44 : isAggT Tryz.prog 44 = some true := by kernel_rfl
theorem zr44 : zeroT Tryz.prog 44 = some (.agg []) := by kernel_rfl
theorem by44 : bytesT Tryz.prog 44 = some 0 := by kernel_rfl
theorem ag45 : isAggT Tryz.prog 45 = some true := by kernel_rfl
theorem zr45 : zeroT Tryz.prog 45 = some (.agg []) := by kernel_rfl
theorem by45 : bytesT Tryz.prog 45 = some 0 := by kernel_rfl
theorem un47 : Tryz.prog.underlying 47 = some (.pointer 49) := by kernel_rfl
theorem sz47 : sizeT Tryz.prog 47 = some 1 := by kernel_rfl
theorem ag47 : isAggT Tryz.prog 47 = some false := by kernel_rfl
theorem zr47 : zeroT Tryz.prog 47 = some (.nilp) := by kernel_rfl
theorem by47 : bytesT Tryz.prog 47 = some 8 := by kernel_rfl
theorem sz48 : sizeT Tryz.prog 48 = some 3 := by kernel_rfl
theorem ag48 : isAggT Tryz.prog 48 = some true := by kernel_rfl
theorem by48 : bytesT Tryz.prog 48 = some 40 := by kernel_rfl
theorem fd48_0 : fieldT Tryz.prog 48 0 = some (0, 40) := by kernel_rfl
theorem fd48_1 : fieldT Tryz.prog 48 1 = some (1, 3) := by kernel_rfl
theorem fd48_2 : fieldT Tryz.prog 48 2 = some (2, 3) := by kernel_rfl
theorem sz49 : sizeT Tryz.prog 49 = some 3 := by kernel_rfl
theorem ag49 : isAggT Tryz.prog 49 = some true := by kernel_rfl
theorem by49 : bytesT Tryz.prog 49 = some 40 := by kernel_rfl
theorem fd49_0 : fieldT Tryz.prog 49 0 = some (0, 40) := by kernel_rfl
theorem fd49_1 : fieldT Tryz.prog 49 1 = some (1, 3) := by kernel_rfl
theorem fd49_2 : fieldT Tryz.prog 49 2 = some (2, 3) := by kernel_rfl
theorem sz50 : sizeT Tryz.prog 50 = some 1 := by kernel_rfl
theorem ag50 : isAggT Tryz.prog 50 = some false := by kernel_rfl
theorem zr50 : zeroT Tryz.prog 50 = some (.niln) := by kernel_rfl
theorem by50 : bytesT Tryz.prog 50 = some 8 := by kernel_rfl
theorem sz51 : sizeT Tryz.prog 51 = some 1 := by kernel_rfl
theorem ag51 : isAggT Tryz.prog 51 = some false := by kernel_rfl
theorem zr51 : zeroT Tryz.prog 51 = some (.niln) := by kernel_rfl
theorem by51 : bytesT Tryz.prog 51 = some 8 := by kernel_rfl
theorem sz52 : sizeT Tryz.prog 52 = some 1 := by kernel_rfl
theorem ag52 : isAggT Tryz.prog 52 = some false := by kernel_rfl
theorem zr52 : zeroT Tryz.prog 52 = some (.niln) := by kernel_rfl
theorem by52 : bytesT Tryz.prog 52 = some 8 := by kernel_rfl
theorem un53 : Tryz.prog.underlying 53 = some (.int .u64) := by kernel_rfl
theorem sz53 : sizeT Tryz.prog 53 = some 1 := by kernel_rfl
theorem ag53 : isAggT Tryz.prog 53 = some false := by kernel_rfl
theorem zr53 : zeroT Tryz.prog 53 = some (.int .u64 0) := by kernel_rfl
theorem by53 : bytesT Tryz.prog 53 = some 8 := by kernel_rfl
theorem sz55 : sizeT Tryz.prog 55 = some 1 := by kernel_rfl
theorem ag55 : isAggT Tryz.prog 55 = some false := by kernel_rfl
theorem zr55 : zeroT Tryz.prog 55 = some (.niln) := by kernel_rfl
theorem by55 : bytesT Tryz.prog 55 = some 8 := by kernel_rfl
theorem sz56 : sizeT Tryz.prog 56 = some 1 := by kernel_rfl
theorem ag56 : isAggT Tryz.prog 56 = some false := by kernel_rfl
theorem zr56 : zeroT Tryz.prog 56 = some (.niln) := by kernel_rfl
theorem by56 : bytesT Tryz.prog 56 = some 8 := by kernel_rfl
theorem sz57 : sizeT Tryz.prog 57 = some 1 := by kernel_rfl
theorem ag57 : isAggT Tryz.prog 57 = some false := by kernel_rfl
theorem zr57 : zeroT Tryz.prog 57 = some (.niln) := by kernel_rfl
theorem by57 : bytesT Tryz.prog 57 = some 8 := by kernel_rfl
theorem un58 : Tryz.prog.underlying 58 = some (.array 3 3) := by kernel_rfl
theorem sz58 : sizeT Tryz.prog 58 = some 3 := by kernel_rfl
theorem ag58 : isAggT Tryz.prog 58 = some true := by kernel_rfl
theorem zr58 : zeroT Tryz.prog 58 = some (.agg [.int .i64 0, .int .i64 0, .int .i64 0]) := by kernel_rfl
theorem by58 : bytesT Tryz.prog 58 = some 24 := by kernel_rfl
theorem bd58 (ps : List (Nat × D)) : buildD Tryz.prog 58 ps = (fillD (fun i => some (i * 1, 1)) (D.cells (.agg [.int .i64 0, .int .i64 0, .int .i64 0])) ps).map .agg := by kernel_rfl
theorem sz59 : sizeT Tryz.prog 59 = some 1 := by kernel_rfl
theorem ag59 : isAggT Tryz.prog 59 = some false := by kernel_rfl
theorem zr59 : zeroT Tryz.prog 59 = some (.niln) := by kernel_rfl
theorem by59 : bytesT Tryz.prog 59 = some 8 := by kernel_rfl
theorem sz60 : sizeT Tryz.prog 60 = some 1 := by kernel_rfl
theorem ag60 : isAggT Tryz.prog 60 = some false := by kernel_rfl
theorem zr60 : zeroT Tryz.prog 60 = some (.niln) := by kernel_rfl
theorem by60 : bytesT Tryz.prog 60 = some 8 := by kernel_rfl
theorem sz61 : sizeT Tryz.prog 61 = some 1 := by kernel_rfl
theorem ag61 : isAggT Tryz.prog 61 = some false := by kernel_rfl
theorem zr61 : zeroT Tryz.prog 61 = some (.niln) := by kernel_rfl
theorem by61 : bytesT Tryz.prog 61 = some 8 := by kernel_rfl
theorem sz62 : sizeT Tryz.prog 62 = some 1 := by kernel_rfl
theorem ag62 : isAggT Tryz.prog 62 = some false := by kernel_rfl
theorem zr62 : zeroT Tryz.prog 62 = some (.niln) := by kernel_rfl
theorem by62 : bytesT Tryz.prog 62 = some 8 := by kernel_rfl
theorem sz63 : sizeT Tryz.prog 63 = some 1 := by kernel_rfl
theorem ag63 : isAggT Tryz.prog 63 = some false := by kernel_rfl
theorem zr63 : zeroT Tryz.prog 63 = some (.niln) := by kernel_rfl
theorem by63 : bytesT Tryz.prog 63 = some 8 := by kernel_rfl
theorem sz64 : sizeT Tryz.prog 64 = some 1 := by kernel_rfl
theorem ag64 : isAggT Tryz.prog 64 = some false := by kernel_rfl
theorem zr64 : zeroT Tryz.prog 64 = some (.niln) := by kernel_rfl
theorem by64 : bytesT Tryz.prog 64 = some 8 := by kernel_rfl
theorem un65 : Tryz.prog.underlying 65 = some (.slice 99) := by kernel_rfl
theorem sz65 : sizeT Tryz.prog 65 = some 1 := by kernel_rfl
theorem ag65 : isAggT Tryz.prog 65 = some false := by kernel_rfl
theorem zr65 : zeroT Tryz.prog 65 = some (.sl true []) := by kernel_rfl
theorem by65 : bytesT Tryz.prog 65 = some 24 := by kernel_rfl
theorem el65 : elemT Tryz.prog 65 = some 99 := by kernel_rfl
theorem sz66 : sizeT Tryz.prog 66 = some 4 := by kernel_rfl
theorem ag66 : isAggT Tryz.prog 66 = some true := by kernel_rfl
theorem zr66 : zeroT Tryz.prog 66 = some (.agg [.int .i64 0, .int .i64 0, .int .i64 0, .sl true []]) := by kernel_rfl
theorem by66 : bytesT Tryz.prog 66 = some 48 := by kernel_rfl
theorem fd66_0 : fieldT Tryz.prog 66 0 = some (0, 3) := by kernel_rfl
theorem fd66_1 : fieldT Tryz.prog 66 1 = some (1, 3) := by kernel_rfl
theorem fd66_2 : fieldT Tryz.prog 66 2 = some (2, 3) := by kernel_rfl
theorem fd66_3 : fieldT Tryz.prog 66 3 = some (3, 65) := by kernel_rfl
theorem bd66 (ps : List (Nat × D)) : buildD Tryz.prog 66 ps = (fillD (fun i => ([(0, 1), (1, 1), (2, 1), (3, 1)] : List (Nat × Nat))[i]?) (D.cells (.agg [.int .i64 0, .int .i64 0, .int .i64 0, .sl true []])) ps).map .agg := by kernel_rfl
theorem sz67 : sizeT Tryz.prog 67 = some 4 := by kernel_rfl
theorem ag67 : isAggT Tryz.prog 67 = some true := by kernel_rfl
theorem zr67 : zeroT Tryz.prog 67 = some (.agg [.int .i64 0, .int .i64 0, .int .i64 0, .sl true []]) := by kernel_rfl
theorem by67 : bytesT Tryz.prog 67 = some 48 := by kernel_rfl
theorem fd67_0 : fieldT Tryz.prog 67 0 = some (0, 3) := by kernel_rfl
theorem fd67_1 : fieldT Tryz.prog 67 1 = some (1, 3) := by kernel_rfl
theorem fd67_2 : fieldT Tryz.prog 67 2 = some (2, 3) := by kernel_rfl
theorem fd67_3 : fieldT Tryz.prog 67 3 = some (3, 65) := by kernel_rfl
theorem bd67 (ps : List (Nat × D)) : buildD Tryz.prog 67 ps = (fillD (fun i => ([(0, 1), (1, 1), (2, 1), (3, 1)] : List (Nat × Nat))[i]?) (D.cells (.agg [.int .i64 0, .int .i64 0, .int .i64 0, .sl true []])) ps).map .agg := by kernel_rfl
theorem sz69 : sizeT Tryz.prog 69 = some 1 := by kernel_rfl
theorem ag69 : isAggT Tryz.prog 69 = some false := by kernel_rfl
theorem zr69 : zeroT Tryz.prog 69 = some (.niln) := by kernel_rfl
theorem by69 : bytesT Tryz.prog 69 = some 8 := by kernel_rfl
theorem sz70 : sizeT Tryz.prog 70 = some 1 := by kernel_rfl
theorem ag70 : isAggT Tryz.prog 70 = some false := by kernel_rfl
theorem zr70 : zeroT Tryz.prog 70 = some (.niln) := by kernel_rfl
theorem by70 : bytesT Tryz.prog 70 = some 8 := by kernel_rfl
theorem sz71 : sizeT Tryz.prog 71 = some 1 := by kernel_rfl
theorem ag71 : isAggT Tryz.prog 71 = some false := by kernel_rfl
theorem zr71 : zeroT Tryz.prog 71 = some (.niln) := by kernel_rfl
theorem by71 : bytesT Tryz.prog 71 = some 8 := by kernel_rfl
theorem sz72 : sizeT Tryz.prog 72 = some 1 := by kernel_rfl
theorem ag72 : isAggT Tryz.prog 72 = some false := by kernel_rfl
theorem zr72 : zeroT Tryz.prog 72 = some (.niln) := by kernel_rfl
theorem by72 : bytesT Tryz.prog 72 = some 8 := by kernel_rfl
theorem un73 : Tryz.prog.underlying 73 = some (.int .i64) := by kernel_rfl
theorem sz73 : sizeT Tryz.prog 73 = some 1 := by kernel_rfl
theorem ag73 : isAggT Tryz.prog 73 = some false := by kernel_rfl
theorem zr73 : zeroT Tryz.prog 73 = some (.int .i64 0) := by kernel_rfl
theorem by73 : bytesT Tryz.prog 73 = some 8 := by kernel_rfl
theorem sz75 : sizeT Tryz.prog 75 = some 1 := by kernel_rfl
theorem ag75 : isAggT Tryz.prog 75 = some false := by kernel_rfl
theorem zr75 : zeroT Tryz.prog 75 = some (.niln) := by kernel_rfl
theorem by75 : bytesT Tryz.prog 75 = some 8 := by kernel_rfl
theorem sz76 : sizeT Tryz.prog 76 = some 1 := by kernel_rfl
theorem ag76 : isAggT Tryz.prog 76 = some false := by kernel_rfl
theorem zr76 : zeroT Tryz.prog 76 = some (.niln) := by kernel_rfl
theorem by76 : bytesT Tryz.prog 76 = some 8 := by kernel_rfl
theorem sz77 : sizeT Tryz.prog 77 = some 1 := by kernel_rfl
theorem ag77 : isAggT Tryz.prog 77 = some false := by kernel_rfl
theorem zr77 : zeroT Tryz.prog 77 = some (.niln) := by kernel_rfl
theorem by77 : bytesT Tryz.prog 77 = some 8 := by kernel_rfl
theorem sz78 : sizeT Tryz.prog 78 = some 1 := by kernel_rfl
theorem ag78 : isAggT Tryz.prog 78 = some false := by kernel_rfl
theorem zr78 : zeroT Tryz.prog 78 = some (.niln) := by kernel_rfl
theorem by78 : bytesT Tryz.prog 78 = some 8 := by kernel_rfl
theorem sz79 : sizeT Tryz.prog 79 = some 1 := by kernel_rfl
theorem ag79 : isAggT Tryz.prog 79 = some false := by kernel_rfl
theorem zr79 : zeroT Tryz.prog 79 = some (.niln) := by kernel_rfl
theorem by79 : bytesT Tryz.prog 79 = some 8 := by kernel_rfl
theorem sz80 : sizeT Tryz.prog 80 = some 1 := by kernel_rfl
theorem ag80 : isAggT Tryz.prog 80 = some false := by kernel_rfl
theorem zr80 : zeroT Tryz.prog 80 = some (.niln) := by kernel_rfl
theorem by80 : bytesT Tryz.prog 80 = some 8 := by kernel_rfl
theorem un81 : Tryz.prog.underlying 81 = some (.int .u32) := by kernel_rfl
theorem sz81 : sizeT Tryz.prog 81 = some 1 := by kernel_rfl
theorem ag81 : isAggT Tryz.prog 81 = some false := by kernel_rfl
theorem zr81 : zeroT Tryz.prog 81 = some (.int .u32 0) := by kernel_rfl
theorem by81 : bytesT Tryz.prog 81 = some 4 := by kernel_rfl
theorem sz82 : sizeT Tryz.prog 82 = some 1 := by kernel_rfl
theorem ag82 : isAggT Tryz.prog 82 = some false := by kernel_rfl
theorem zr82 : zeroT Tryz.prog 82 = some (.niln) := by kernel_rfl
theorem by82 : bytesT Tryz.prog 82 = some 8 := by kernel_rfl
theorem un83 : Tryz.prog.underlying 83 = some (.int .u64) := by kernel_rfl
theorem sz83 : sizeT Tryz.prog 83 = some 1 := by kernel_rfl
theorem ag83 : isAggT Tryz.prog 83 = some false := by kernel_rfl
theorem zr83 : zeroT Tryz.prog 83 = some (.int .u64 0) := by kernel_rfl
theorem by83 : bytesT Tryz.prog 83 = some 8 := by kernel_rfl
theorem sz84 : sizeT Tryz.prog 84 = some 1 := by kernel_rfl
theorem ag84 : isAggT Tryz.prog 84 = some false := by kernel_rfl
theorem zr84 : zeroT Tryz.prog 84 = some (.niln) := by kernel_rfl
theorem by84 : bytesT Tryz.prog 84 = some 8 := by kernel_rfl
theorem sz85 : sizeT Tryz.prog 85 = some 1 := by kernel_rfl
theorem ag85 : isAggT Tryz.prog 85 = some false := by kernel_rfl
theorem zr85 : zeroT Tryz.prog 85 = some (.niln) := by kernel_rfl
theorem by85 : bytesT Tryz.prog 85 = some 8 := by kernel_rfl
theorem sz87 : sizeT Tryz.prog 87 = some 1 := by kernel_rfl
theorem ag87 : isAggT Tryz.prog 87 = some false := by kernel_rfl
theorem zr87 : zeroT Tryz.prog 87 = some (.niln) := by kernel_rfl
theorem by87 : bytesT Tryz.prog 87 = some 8 := by kernel_rfl
theorem un88 : Tryz.prog.underlying 88 = some (.slice 192) := by kernel_rfl
theorem sz88 : sizeT Tryz.prog 88 = some 1 := by kernel_rfl
theorem ag88 : isAggT Tryz.prog 88 = some false := by kernel_rfl
theorem zr88 : zeroT Tryz.prog 88 = some (.sl true []) := by kernel_rfl
theorem by88 : bytesT Tryz.prog 88 = some 24 := by kernel_rfl
theorem el88 : elemT Tryz.prog 88 = some 192 := by kernel_rfl
theorem un89 : Tryz.prog.underlying 89 = some (.slice 27) := by kernel_rfl
theorem sz89 : sizeT Tryz.prog 89 = some 1 := by kernel_rfl
theorem ag89 : isAggT Tryz.prog 89 = some false := by kernel_rfl
theorem zr89 : zeroT Tryz.prog 89 = some (.sl true []) := by kernel_rfl
theorem by89 : bytesT Tryz.prog 89 = some 24 := by kernel_rfl
theorem el89 : elemT Tryz.prog 89 = some 27 := by kernel_rfl
theorem un90 : Tryz.prog.underlying 90 = some (.slice 134) := by kernel_rfl
theorem sz90 : sizeT Tryz.prog 90 = some 1 := by kernel_rfl
theorem ag90 : isAggT Tryz.prog 90 = some false := by kernel_rfl
theorem zr90 : zeroT Tryz.prog 90 = some (.sl true []) := by kernel_rfl
theorem by90 : bytesT Tryz.prog 90 = some 24 := by kernel_rfl
theorem el90 : elemT Tryz.prog 90 = some 134 := by kernel_rfl
theorem un91 : Tryz.prog.underlying 91 = some (.slice 108) := by kernel_rfl
theorem sz91 : sizeT Tryz.prog 91 = some 1 := by kernel_rfl
theorem ag91 : isAggT Tryz.prog 91 = some false := by kernel_rfl
theorem zr91 : zeroT Tryz.prog 91 = some (.sl true []) := by kernel_rfl
theorem by91 : bytesT Tryz.prog 91 = some 24 := by kernel_rfl
theorem el91 : elemT Tryz.prog 91 = some 108 := by kernel_rfl
theorem un92 : Tryz.prog.underlying 92 = some (.slice 163) := by kernel_rfl
theorem sz92 : sizeT Tryz.prog 92 = some 1 := by kernel_rfl
theorem ag92 : isAggT Tryz.prog 92 = some false := by kernel_rfl
theorem zr92 : zeroT Tryz.prog 92 = some (.sl true []) := by kernel_rfl
theorem by92 : bytesT Tryz.prog 92 = some 24 := by kernel_rfl
theorem el92 : elemT Tryz.prog 92 = some 163 := by kernel_rfl
theorem un93 : Tryz.prog.underlying 93 = some (.slice 128) := by kernel_rfl
theorem sz93 : sizeT Tryz.prog 93 = some 1 := by kernel_rfl
theorem ag93 : isAggT Tryz.prog 93 = some false := by kernel_rfl
theorem zr93 : zeroT Tryz.prog 93 = some (.sl true []) := by kernel_rfl
theorem by93 : bytesT Tryz.prog 93 = some 24 := by kernel_rfl
theorem el93 : elemT Tryz.prog 93 = some 128 := by kernel_rfl
theorem un94 : Tryz.prog.underlying 94 = some (.slice 209) := by kernel_rfl
theorem sz94 : sizeT Tryz.prog 94 = some 1 := by kernel_rfl
theorem ag94 : isAggT Tryz.prog 94 = some false := by kernel_rfl
theorem zr94 : zeroT Tryz.prog 94 = some (.sl true []) := by kernel_rfl
theorem by94 : bytesT Tryz.prog 94 = some 24 := by kernel_rfl
theorem el94 : elemT Tryz.prog 94 = some 209 := by kernel_rfl
theorem un95 : Tryz.prog.underlying 95 = some (.slice 172) := by kernel_rfl
theorem sz95 : sizeT Tryz.prog 95 = some 1 := by kernel_rfl
theorem ag95 : isAggT Tryz.prog 95 = some false := by kernel_rfl
theorem zr95 : zeroT Tryz.prog 95 = some (.sl true []) := by kernel_rfl
theorem by95 : bytesT Tryz.prog 95 = some 24 := by kernel_rfl
theorem el95 : elemT Tryz.prog 95 = some 172 := by kernel_rfl
theorem un96 : Tryz.prog.underlying 96 = some (.slice 175) := by kernel_rfl
theorem sz96 : sizeT Tryz.prog 96 = some 1 := by kernel_rfl
theorem ag96 : isAggT Tryz.prog 96 = some false := by kernel_rfl
theorem zr96 : zeroT Tryz.prog 96 = some (.sl true []) := by kernel_rfl
theorem by96 : bytesT Tryz.prog 96 = some 24 := by kernel_rfl
theorem el96 : elemT Tryz.prog 96 = some 175 := by kernel_rfl
theorem un97 : Tryz.prog.underlying 97 = some (.slice 129) := by kernel_rfl
theorem sz97 : sizeT Tryz.prog 97 = some 1 := by kernel_rfl
theorem ag97 : isAggT Tryz.prog 97 = some false := by kernel_rfl
theorem zr97 : zeroT Tryz.prog 97 = some (.sl true []) := by kernel_rfl
theorem by97 : bytesT Tryz.prog 97 = some 24 := by kernel_rfl
theorem el97 : elemT Tryz.prog 97 = some 129 := by kernel_rfl
theorem sz98 : sizeT Tryz.prog 98 = some 16 := by kernel_rfl
theorem ag98 : isAggT Tryz.prog 98 = some true := by kernel_rfl
theorem by98 : bytesT Tryz.prog 98 = some 336 := by kernel_rfl
theorem fd98_0 : fieldT Tryz.prog 98 0 = some (0, 3) := by kernel_rfl
theorem fd98_1 : fieldT Tryz.prog 98 1 = some (1, 88) := by kernel_rfl
theorem fd98_2 : fieldT Tryz.prog 98 2 = some (2, 4) := by kernel_rfl
theorem fd98_3 : fieldT Tryz.prog 98 3 = some (3, 3) := by kernel_rfl
theorem fd98_4 : fieldT Tryz.prog 98 4 = some (4, 89) := by kernel_rfl
theorem fd98_5 : fieldT Tryz.prog 98 5 = some (5, 90) := by kernel_rfl
theorem fd98_6 : fieldT Tryz.prog 98 6 = some (6, 91) := by kernel_rfl
theorem fd98_7 : fieldT Tryz.prog 98 7 = some (7, 92) := by kernel_rfl
theorem fd98_8 : fieldT Tryz.prog 98 8 = some (8, 93) := by kernel_rfl
theorem fd98_9 : fieldT Tryz.prog 98 9 = some (9, 94) := by kernel_rfl
theorem fd98_10 : fieldT Tryz.prog 98 10 = some (10, 94) := by kernel_rfl
theorem fd98_11 : fieldT Tryz.prog 98 11 = some (11, 93) := by kernel_rfl
theorem fd98_12 : fieldT Tryz.prog 98 12 = some (12, 95) := by kernel_rfl
theorem fd98_13 : fieldT Tryz.prog 98 13 = some (13, 96) := by kernel_rfl
theorem fd98_14 : fieldT Tryz.prog 98 14 = some (14, 88) := by kernel_rfl
theorem fd98_15 : fieldT Tryz.prog 98 15 = some (15, 97) := by kernel_rfl
theorem sz99 : sizeT Tryz.prog 99 = some 16 := by kernel_rfl
theorem ag99 : isAggT Tryz.prog 99 = some true := by kernel_rfl
theorem by99 : bytesT Tryz.prog 99 = some 336 := by kernel_rfl
theorem fd99_0 : fieldT Tryz.prog 99 0 = some (0, 3) := by kernel_rfl
theorem fd99_1 : fieldT Tryz.prog 99 1 = some (1, 88) := by kernel_rfl
theorem fd99_2 : fieldT Tryz.prog 99 2 = some (2, 4) := by kernel_rfl
theorem fd99_3 : fieldT Tryz.prog 99 3 = some (3, 3) := by kernel_rfl
theorem fd99_4 : fieldT Tryz.prog 99 4 = some (4, 89) := by kernel_rfl
theorem fd99_5 : fieldT Tryz.prog 99 5 = some (5, 90) := by kernel_rfl
theorem fd99_6 : fieldT Tryz.prog 99 6 = some (6, 91) := by kernel_rfl
theorem fd99_7 : fieldT Tryz.prog 99 7 = some (7, 92) := by kernel_rfl
theorem fd99_8 : fieldT Tryz.prog 99 8 = some (8, 93) := by kernel_rfl
theorem fd99_9 : fieldT Tryz.prog 99 9 = some (9, 94) := by kernel_rfl
theorem fd99_10 : fieldT Tryz.prog 99 10 = some (10, 94) := by kernel_rfl
theorem fd99_11 : fieldT Tryz.prog 99 11 = some (11, 93) := by kernel_rfl
theorem fd99_12 : fieldT Tryz.prog 99 12 = some (12, 95) := by kernel_rfl
theorem fd99_13 : fieldT Tryz.prog 99 13 = some (13, 96) := by kernel_rfl
theorem fd99_14 : fieldT Tryz.prog 99 14 = some (14, 88) := by kernel_rfl
theorem fd99_15 : fieldT Tryz.prog 99 15 = some (15, 97) := by kernel_rfl
theorem sz101 : sizeT Tryz.prog 101 = some 1 := by kernel_rfl
theorem ag101 : isAggT Tryz.prog 101 = some false := by kernel_rfl
theorem zr101 : zeroT Tryz.prog 101 = some (.niln) := by kernel_rfl
theorem by101 : bytesT Tryz.prog 101 = some 8 := by kernel_rfl
theorem sz102 : sizeT Tryz.prog 102 = some 1 := by kernel_rfl
theorem ag102 : isAggT Tryz.prog 102 = some false := by kernel_rfl
theorem zr102 : zeroT Tryz.prog 102 = some (.niln) := by kernel_rfl
theorem by102 : bytesT Tryz.prog 102 = some 8 := by kernel_rfl
theorem sz103 : sizeT Tryz.prog 103 = some 1 := by kernel_rfl
theorem ag103 : isAggT Tryz.prog 103 = some false := by kernel_rfl
theorem zr103 : zeroT Tryz.prog 103 = some (.niln) := by kernel_rfl
theorem by103 : bytesT Tryz.prog 103 = some 8 := by kernel_rfl
theorem sz104 : sizeT Tryz.prog 104 = some 1 := by kernel_rfl
theorem ag104 : isAggT Tryz.prog 104 = some false := by kernel_rfl
theorem zr104 : zeroT Tryz.prog 104 = some (.niln) := by kernel_rfl
theorem by104 : bytesT Tryz.prog 104 = some 8 := by kernel_rfl
theorem un105 : Tryz.prog.underlying 105 = some (.slice 139) := by kernel_rfl
theorem sz105 : sizeT Tryz.prog 105 = some 1 := by kernel_rfl
theorem ag105 : isAggT Tryz.prog 105 = some false := by kernel_rfl
theorem zr105 : zeroT Tryz.prog 105 = some (.sl true []) := by kernel_rfl
theorem by105 : bytesT Tryz.prog 105 = some 24 := by kernel_rfl
theorem el105 : elemT Tryz.prog 105 = some 139 := by kernel_rfl
theorem un106 : Tryz.prog.underlying 106 = some (.slice 111) := by kernel_rfl
theorem sz106 : sizeT Tryz.prog 106 = some 1 := by kernel_rfl
theorem ag106 : isAggT Tryz.prog 106 = some false := by kernel_rfl
theorem zr106 : zeroT Tryz.prog 106 = some (.sl true []) := by kernel_rfl
theorem by106 : bytesT Tryz.prog 106 = some 24 := by kernel_rfl
theorem el106 : elemT Tryz.prog 106 = some 111 := by kernel_rfl
theorem sz107 : sizeT Tryz.prog 107 = some 4 := by kernel_rfl
theorem ag107 : isAggT Tryz.prog 107 = some true := by kernel_rfl
theorem by107 : bytesT Tryz.prog 107 = some 96 := by kernel_rfl
theorem fd107_0 : fieldT Tryz.prog 107 0 = some (0, 105) := by kernel_rfl
theorem fd107_1 : fieldT Tryz.prog 107 1 = some (1, 105) := by kernel_rfl
theorem fd107_2 : fieldT Tryz.prog 107 2 = some (2, 105) := by kernel_rfl
theorem fd107_3 : fieldT Tryz.prog 107 3 = some (3, 106) := by kernel_rfl
theorem sz108 : sizeT Tryz.prog 108 = some 4 := by kernel_rfl
theorem ag108 : isAggT Tryz.prog 108 = some true := by kernel_rfl
theorem by108 : bytesT Tryz.prog 108 = some 96 := by kernel_rfl
theorem fd108_0 : fieldT Tryz.prog 108 0 = some (0, 105) := by kernel_rfl
theorem fd108_1 : fieldT Tryz.prog 108 1 = some (1, 105) := by kernel_rfl
theorem fd108_2 : fieldT Tryz.prog 108 2 = some (2, 105) := by kernel_rfl
theorem fd108_3 : fieldT Tryz.prog 108 3 = some (3, 106) := by kernel_rfl
theorem sz109 : sizeT Tryz.prog 109 = some 1 := by kernel_rfl
theorem ag109 : isAggT Tryz.prog 109 = some false := by kernel_rfl
theorem zr109 : zeroT Tryz.prog 109 = some (.niln) := by kernel_rfl
theorem by109 : bytesT Tryz.prog 109 = some 8 := by kernel_rfl
theorem sz110 : sizeT Tryz.prog 110 = some 2 := by kernel_rfl
theorem ag110 : isAggT Tryz.prog 110 = some true := by kernel_rfl
theorem zr110 : zeroT Tryz.prog 110 = some (.agg [.int .i64 0, .int .i64 0]) := by kernel_rfl
theorem by110 : bytesT Tryz.prog 110 = some 16 := by kernel_rfl
theorem fd110_0 : fieldT Tryz.prog 110 0 = some (0, 3) := by kernel_rfl
theorem fd110_1 : fieldT Tryz.prog 110 1 = some (1, 3) := by kernel_rfl
theorem bd110 (ps : List (Nat × D)) : buildD Tryz.prog 110 ps = (fillD (fun i => ([(0, 1), (1, 1)] : List (Nat × Nat))[i]?) (D.cells (.agg [.int .i64 0, .int .i64 0])) ps).map .agg := by kernel_rfl
theorem sz111 : sizeT Tryz.prog 111 = some 2 := by kernel_rfl
theorem ag111 : isAggT Tryz.prog 111 = some true := by kernel_rfl
theorem zr111 : zeroT Tryz.prog 111 = some (.agg [.int .i64 0, .int .i64 0]) := by kernel_rfl
theorem by111 : bytesT Tryz.prog 111 = some 16 := by kernel_rfl
theorem fd111_0 : fieldT Tryz.prog 111 0 = some (0, 3) := by kernel_rfl
theorem fd111_1 : fieldT Tryz.prog 111 1 = some (1, 3) := by kernel_rfl
theorem bd111 (ps : List (Nat × D)) : buildD Tryz.prog 111 ps = (fillD (fun i => ([(0, 1), (1, 1)] : List (Nat × Nat))[i]?) (D.cells (.agg [.int .i64 0, .int .i64 0])) ps).map .agg := by kernel_rfl
theorem sz112 : sizeT Tryz.prog 112 = some 1 := by kernel_rfl
theorem ag112 : isAggT Tryz.prog 112 = some false := by kernel_rfl
theorem zr112 : zeroT Tryz.prog 112 = some (.niln) := by kernel_rfl
theorem by112 : bytesT Tryz.prog 112 = some 8 := by kernel_rfl
theorem un113 : Tryz.prog.underlying 113 = some (.int .u64) := by kernel_rfl
theorem sz113 : sizeT Tryz.prog 113 = some 1 := by kernel_rfl
theorem ag113 : isAggT Tryz.prog 113 = some false := by kernel_rfl
theorem zr113 : zeroT Tryz.prog 113 = some (.int .u64 0) := by kernel_rfl
theorem by113 : bytesT Tryz.prog 113 = some 8 := by kernel_rfl
theorem sz114 : sizeT Tryz.prog 114 = some 1 := by kernel_rfl
theorem ag114 : isAggT Tryz.prog 114 = some false := by kernel_rfl
theorem zr114 : zeroT Tryz.prog 114 = some (.niln) := by kernel_rfl
theorem by114 : bytesT Tryz.prog 114 = some 8 := by kernel_rfl
theorem sz115 : sizeT Tryz.prog 115 = some 1 := by kernel_rfl
theorem ag115 : isAggT Tryz.prog 115 = some false := by kernel_rfl
theorem zr115 : zeroT Tryz.prog 115 = some (.niln) := by kernel_rfl
theorem by115 : bytesT Tryz.prog 115 = some 8 := by kernel_rfl
theorem sz116 : sizeT Tryz.prog 116 = some 1 := by kernel_rfl
theorem ag116 : isAggT Tryz.prog 116 = some false := by kernel_rfl
theorem zr116 : zeroT Tryz.prog 116 = some (.niln) := by kernel_rfl
theorem by116 : bytesT Tryz.prog 116 = some 8 := by kernel_rfl
theorem un117 : Tryz.prog.underlying 117 = some (.pointer 3) := by kernel_rfl
theorem sz117 : sizeT Tryz.prog 117 = some 1 := by kernel_rfl
theorem ag117 : isAggT Tryz.prog 117 = some false := by kernel_rfl
theorem zr117 : zeroT Tryz.prog 117 = some (.nilp) := by kernel_rfl
theorem by117 : bytesT Tryz.prog 117 = some 8 := by kernel_rfl
theorem sz118 : sizeT Tryz.prog 118 = some 1 := by kernel_rfl
theorem ag118 : isAggT Tryz.prog 118 = some false := by kernel_rfl
theorem zr118 : zeroT Tryz.prog 118 = some (.niln) := by kernel_rfl
theorem by118 : bytesT Tryz.prog 118 = some 8 := by kernel_rfl
theorem sz119 : sizeT Tryz.prog 119 = some 1 := by kernel_rfl
theorem ag119 : isAggT Tryz.prog 119 = some false := by kernel_rfl
theorem zr119 : zeroT Tryz.prog 119 = some (.niln) := by kernel_rfl
theorem by119 : bytesT Tryz.prog 119 = some 8 := by kernel_rfl
theorem sz121 : sizeT Tryz.prog 121 = some 1 := by kernel_rfl
theorem ag121 : isAggT Tryz.prog 121 = some false := by kernel_rfl
theorem zr121 : zeroT Tryz.prog 121 = some (.niln) := by kernel_rfl
theorem by121 : bytesT Tryz.prog 121 = some 8 := by kernel_rfl
theorem sz122 : sizeT Tryz.prog 122 = some 1 := by kernel_rfl
theorem ag122 : isAggT Tryz.prog 122 = some false := by kernel_rfl
theorem zr122 : zeroT Tryz.prog 122 = some (.niln) := by kernel_rfl
theorem by122 : bytesT Tryz.prog 122 = some 8 := by kernel_rfl
theorem sz123 : sizeT Tryz.prog 123 = some 1 := by kernel_rfl
theorem ag123 : isAggT Tryz.prog 123 = some false := by kernel_rfl
theorem zr123 : zeroT Tryz.prog 123 = some (.niln) := by kernel_rfl
theorem by123 : bytesT Tryz.prog 123 = some 8 := by kernel_rfl
theorem ag124 : isAggT Tryz.prog 124 = some true := by kernel_rfl
theorem zr124 : zeroT Tryz.prog 124 = some (.agg []) := by kernel_rfl
theorem by124 : bytesT Tryz.prog 124 = some 0 := by kernel_rfl
theorem sz126 : sizeT Tryz.prog 126 = some 1 := by kernel_rfl
theorem ag126 : isAggT Tryz.prog 126 = some false := by kernel_rfl
theorem zr126 : zeroT Tryz.prog 126 = some (.niln) := by kernel_rfl
theorem by126 : bytesT Tryz.prog 126 = some 8 := by kernel_rfl
theorem un127 : Tryz.prog.underlying 127 = some (.slice 93) := by kernel_rfl
theorem sz127 : sizeT Tryz.prog 127 = some 1 := by kernel_rfl
theorem ag127 : isAggT Tryz.prog 127 = some false := by kernel_rfl
theorem zr127 : zeroT Tryz.prog 127 = some (.sl true []) := by kernel_rfl
theorem by127 : bytesT Tryz.prog 127 = some 24 := by kernel_rfl
theorem el127 : elemT Tryz.prog 127 = some 93 := by kernel_rfl
theorem un128 : Tryz.prog.underlying 128 = some (.slice 167) := by kernel_rfl
theorem sz128 : sizeT Tryz.prog 128 = some 1 := by kernel_rfl
theorem ag128 : isAggT Tryz.prog 128 = some false := by kernel_rfl
theorem zr128 : zeroT Tryz.prog 128 = some (.sl true []) := by kernel_rfl
theorem by128 : bytesT Tryz.prog 128 = some 24 := by kernel_rfl
theorem el128 : elemT Tryz.prog 128 = some 167 := by kernel_rfl
theorem un129 : Tryz.prog.underlying 129 = some (.slice 130) := by kernel_rfl
theorem sz129 : sizeT Tryz.prog 129 = some 1 := by kernel_rfl
theorem ag129 : isAggT Tryz.prog 129 = some false := by kernel_rfl
theorem zr129 : zeroT Tryz.prog 129 = some (.sl true []) := by kernel_rfl
theorem by129 : bytesT Tryz.prog 129 = some 24 := by kernel_rfl
theorem el129 : elemT Tryz.prog 129 = some 130 := by kernel_rfl
theorem un130 : Tryz.prog.underlying 130 = some (.slice 171) := by kernel_rfl
theorem sz130 : sizeT Tryz.prog 130 = some 1 := by kernel_rfl
theorem ag130 : isAggT Tryz.prog 130 = some false := by kernel_rfl
theorem zr130 : zeroT Tryz.prog 130 = some (.sl true []) := by kernel_rfl
theorem by130 : bytesT Tryz.prog 130 = some 24 := by kernel_rfl
theorem el130 : elemT Tryz.prog 130 = some 171 := by kernel_rfl
theorem ag131 : isAggT Tryz.prog 131 = some true := by kernel_rfl
theorem zr131 : zeroT Tryz.prog 131 = some (.agg []) := by kernel_rfl
theorem by131 : bytesT Tryz.prog 131 = some 0 := by kernel_rfl
theorem sz133 : sizeT Tryz.prog 133 = some 1 := by kernel_rfl
theorem ag133 : isAggT Tryz.prog 133 = some false := by kernel_rfl
theorem zr133 : zeroT Tryz.prog 133 = some (.niln) := by kernel_rfl
theorem by133 : bytesT Tryz.prog 133 = some 8 := by kernel_rfl
theorem un134 : Tryz.prog.underlying 134 = some (.slice 136) := by kernel_rfl
theorem sz134 : sizeT Tryz.prog 134 = some 1 := by kernel_rfl
theorem ag134 : isAggT Tryz.prog 134 = some false := by kernel_rfl
theorem zr134 : zeroT Tryz.prog 134 = some (.sl true []) := by kernel_rfl
theorem by134 : bytesT Tryz.prog 134 = some 24 := by kernel_rfl
theorem el134 : elemT Tryz.prog 134 = some 136 := by kernel_rfl
theorem sz135 : sizeT Tryz.prog 135 = some 2 := by kernel_rfl
theorem ag135 : isAggT Tryz.prog 135 = some true := by kernel_rfl
theorem by135 : bytesT Tryz.prog 135 = some 32 := by kernel_rfl
theorem fd135_0 : fieldT Tryz.prog 135 0 = some (0, 27) := by kernel_rfl
theorem fd135_1 : fieldT Tryz.prog 135 1 = some (1, 3) := by kernel_rfl
theorem sz136 : sizeT Tryz.prog 136 = some 2 := by kernel_rfl
theorem ag136 : isAggT Tryz.prog 136 = some true := by kernel_rfl
theorem by136 : bytesT Tryz.prog 136 = some 32 := by kernel_rfl
theorem fd136_0 : fieldT Tryz.prog 136 0 = some (0, 27) := by kernel_rfl
theorem fd136_1 : fieldT Tryz.prog 136 1 = some (1, 3) := by kernel_rfl
theorem un137 : Tryz.prog.underlying 137 = some (.slice 105) := by kernel_rfl
theorem sz137 : sizeT Tryz.prog 137 = some 1 := by kernel_rfl
theorem ag137 : isAggT Tryz.prog 137 = some false := by kernel_rfl
theorem zr137 : zeroT Tryz.prog 137 = some (.sl true []) := by kernel_rfl
theorem by137 : bytesT Tryz.prog 137 = some 24 := by kernel_rfl
theorem el137 : elemT Tryz.prog 137 = some 105 := by kernel_rfl
theorem sz138 : sizeT Tryz.prog 138 = some 2 := by kernel_rfl
theorem ag138 : isAggT Tryz.prog 138 = some true := by kernel_rfl
theorem by138 : bytesT Tryz.prog 138 = some 32 := by kernel_rfl
theorem fd138_0 : fieldT Tryz.prog 138 0 = some (0, 88) := by kernel_rfl
theorem fd138_1 : fieldT Tryz.prog 138 1 = some (1, 4) := by kernel_rfl
theorem sz139 : sizeT Tryz.prog 139 = some 2 := by kernel_rfl
theorem ag139 : isAggT Tryz.prog 139 = some true := by kernel_rfl
theorem by139 : bytesT Tryz.prog 139 = some 32 := by kernel_rfl
theorem fd139_0 : fieldT Tryz.prog 139 0 = some (0, 88) := by kernel_rfl
theorem fd139_1 : fieldT Tryz.prog 139 1 = some (1, 4) := by kernel_rfl
theorem sz140 : sizeT Tryz.prog 140 = some 1 := by kernel_rfl
theorem ag140 : isAggT Tryz.prog 140 = some false := by kernel_rfl
theorem zr140 : zeroT Tryz.prog 140 = some (.niln) := by kernel_rfl
theorem by140 : bytesT Tryz.prog 140 = some 8 := by kernel_rfl
theorem sz141 : sizeT Tryz.prog 141 = some 1 := by kernel_rfl
theorem ag141 : isAggT Tryz.prog 141 = some false := by kernel_rfl
theorem zr141 : zeroT Tryz.prog 141 = some (.niln) := by kernel_rfl
theorem by141 : bytesT Tryz.prog 141 = some 8 := by kernel_rfl
theorem un142 : Tryz.prog.underlying 142 = some (.pointer 113) := by kernel_rfl
theorem sz142 : sizeT Tryz.prog 142 = some 1 := by kernel_rfl
theorem ag142 : isAggT Tryz.prog 142 = some false := by kernel_rfl
theorem zr142 : zeroT Tryz.prog 142 = some (.nilp) := by kernel_rfl
theorem by142 : bytesT Tryz.prog 142 = some 8 := by kernel_rfl
theorem sz144 : sizeT Tryz.prog 144 = some 1 := by kernel_rfl
theorem ag144 : isAggT Tryz.prog 144 = some false := by kernel_rfl
theorem zr144 : zeroT Tryz.prog 144 = some (.niln) := by kernel_rfl
theorem by144 : bytesT Tryz.prog 144 = some 8 := by kernel_rfl
theorem un145 : Tryz.prog.underlying 145 = some (.pointer 147) := by kernel_rfl
theorem sz145 : sizeT Tryz.prog 145 = some 1 := by kernel_rfl
theorem ag145 : isAggT Tryz.prog 145 = some false := by kernel_rfl
theorem zr145 : zeroT Tryz.prog 145 = some (.nilp) := by kernel_rfl
theorem by145 : bytesT Tryz.prog 145 = some 8 := by kernel_rfl
theorem sz146 : sizeT Tryz.prog 146 = some 3 := by kernel_rfl
theorem ag146 : isAggT Tryz.prog 146 = some true := by kernel_rfl
theorem by146 : bytesT Tryz.prog 146 = some 40 := by kernel_rfl
theorem fd146_0 : fieldT Tryz.prog 146 0 = some (0, 40) := by kernel_rfl
theorem fd146_1 : fieldT Tryz.prog 146 1 = some (1, 3) := by kernel_rfl
theorem fd146_2 : fieldT Tryz.prog 146 2 = some (2, 3) := by kernel_rfl
theorem sz147 : sizeT Tryz.prog 147 = some 3 := by kernel_rfl
theorem ag147 : isAggT Tryz.prog 147 = some true := by kernel_rfl
theorem by147 : bytesT Tryz.prog 147 = some 40 := by kernel_rfl
theorem fd147_0 : fieldT Tryz.prog 147 0 = some (0, 40) := by kernel_rfl
theorem fd147_1 : fieldT Tryz.prog 147 1 = some (1, 3) := by kernel_rfl
theorem fd147_2 : fieldT Tryz.prog 147 2 = some (2, 3) := by kernel_rfl
theorem sz148 : sizeT Tryz.prog 148 = some 1 := by kernel_rfl
theorem ag148 : isAggT Tryz.prog 148 = some false := by kernel_rfl
theorem zr148 : zeroT Tryz.prog 148 = some (.niln) := by kernel_rfl
theorem by148 : bytesT Tryz.prog 148 = some 8 := by kernel_rfl
theorem sz149 : sizeT Tryz.prog 149 = some 1 := by kernel_rfl
theorem ag149 : isAggT Tryz.prog 149 = some false := by kernel_rfl
theorem zr149 : zeroT Tryz.prog 149 = some (.niln) := by kernel_rfl
theorem by149 : bytesT Tryz.prog 149 = some 8 := by kernel_rfl
theorem sz150 : sizeT Tryz.prog 150 = some 1 := by kernel_rfl
theorem ag150 : isAggT Tryz.prog 150 = some false := by kernel_rfl
theorem zr150 : zeroT Tryz.prog 150 = some (.niln) := by kernel_rfl
theorem by150 : bytesT Tryz.prog 150 = some 8 := by kernel_rfl
theorem sz151 : sizeT Tryz.prog 151 = some 1 := by kernel_rfl
theorem ag151 : isAggT Tryz.prog 151 = some false := by kernel_rfl
theorem zr151 : zeroT Tryz.prog 151 = some (.niln) := by kernel_rfl
theorem by151 : bytesT Tryz.prog 151 = some 8 := by kernel_rfl
theorem un152 : Tryz.prog.underlying 152 = some (.pointer 154) := by kernel_rfl
theorem sz152 : sizeT Tryz.prog 152 = some 1 := by kernel_rfl
theorem ag152 : isAggT Tryz.prog 152 = some false := by kernel_rfl
theorem zr152 : zeroT Tryz.prog 152 = some (.nilp) := by kernel_rfl
theorem by152 : bytesT Tryz.prog 152 = some 8 := by kernel_rfl
theorem sz153 : sizeT Tryz.prog 153 = some 3 := by kernel_rfl
theorem ag153 : isAggT Tryz.prog 153 = some true := by kernel_rfl
theorem by153 : bytesT Tryz.prog 153 = some 40 := by kernel_rfl
theorem fd153_0 : fieldT Tryz.prog 153 0 = some (0, 40) := by kernel_rfl
theorem fd153_1 : fieldT Tryz.prog 153 1 = some (1, 3) := by kernel_rfl
theorem fd153_2 : fieldT Tryz.prog 153 2 = some (2, 3) := by kernel_rfl
theorem sz154 : sizeT Tryz.prog 154 = some 3 := by kernel_rfl
theorem ag154 : isAggT Tryz.prog 154 = some true := by kernel_rfl
theorem by154 : bytesT Tryz.prog 154 = some 40 := by kernel_rfl
theorem fd154_0 : fieldT Tryz.prog 154 0 = some (0, 40) := by kernel_rfl
theorem fd154_1 : fieldT Tryz.prog 154 1 = some (1, 3) := by kernel_rfl
theorem fd154_2 : fieldT Tryz.prog 154 2 = some (2, 3) := by kernel_rfl
theorem sz155 : sizeT Tryz.prog 155 = some 1 := by kernel_rfl
theorem ag155 : isAggT Tryz.prog 155 = some false := by kernel_rfl
theorem zr155 : zeroT Tryz.prog 155 = some (.niln) := by kernel_rfl
theorem by155 : bytesT Tryz.prog 155 = some 8 := by kernel_rfl
theorem sz157 : sizeT Tryz.prog 157 = some 1 := by kernel_rfl
theorem ag157 : isAggT Tryz.prog 157 = some false := by kernel_rfl
theorem zr157 : zeroT Tryz.prog 157 = some (.niln) := by kernel_rfl
theorem by157 : bytesT Tryz.prog 157 = some 8 := by kernel_rfl
theorem sz158 : sizeT Tryz.prog 158 = some 1 := by kernel_rfl
theorem ag158 : isAggT Tryz.prog 158 = some false := by kernel_rfl
theorem zr158 : zeroT Tryz.prog 158 = some (.niln) := by kernel_rfl
theorem by158 : bytesT Tryz.prog 158 = some 8 := by kernel_rfl
theorem sz159 : sizeT Tryz.prog 159 = some 1 := by kernel_rfl
theorem ag159 : isAggT Tryz.prog 159 = some false := by kernel_rfl
theorem zr159 : zeroT Tryz.prog 159 = some (.niln) := by kernel_rfl
theorem by159 : bytesT Tryz.prog 159 = some 8 := by kernel_rfl
theorem sz160 : sizeT Tryz.prog 160 = some 1 := by kernel_rfl
theorem ag160 : isAggT Tryz.prog 160 = some false := by kernel_rfl
theorem zr160 : zeroT Tryz.prog 160 = some (.niln) := by kernel_rfl
theorem by160 : bytesT Tryz.prog 160 = some 8 := by kernel_rfl
theorem sz161 : sizeT Tryz.prog 161 = some 1 := by kernel_rfl
theorem ag161 : isAggT Tryz.prog 161 = some false := by kernel_rfl
theorem zr161 : zeroT Tryz.prog 161 = some (.niln) := by kernel_rfl
theorem by161 : bytesT Tryz.prog 161 = some 8 := by kernel_rfl
theorem sz162 : sizeT Tryz.prog 162 = some 4 := by kernel_rfl
theorem ag162 : isAggT Tryz.prog 162 = some true := by kernel_rfl
theorem zr162 : zeroT Tryz.prog 162 = some (.agg [.int .i64 0, .int .i64 0, .int .i64 0, .int .i64 0]) := by kernel_rfl
theorem by162 : bytesT Tryz.prog 162 = some 32 := by kernel_rfl
theorem fd162_0 : fieldT Tryz.prog 162 0 = some (0, 3) := by kernel_rfl
theorem fd162_1 : fieldT Tryz.prog 162 1 = some (1, 3) := by kernel_rfl
theorem fd162_2 : fieldT Tryz.prog 162 2 = some (2, 3) := by kernel_rfl
theorem fd162_3 : fieldT Tryz.prog 162 3 = some (3, 3) := by kernel_rfl
theorem bd162 (ps : List (Nat × D)) : buildD Tryz.prog 162 ps = (fillD (fun i => ([(0, 1), (1, 1), (2, 1), (3, 1)] : List (Nat × Nat))[i]?) (D.cells (.agg [.int .i64 0, .int .i64 0, .int .i64 0, .int .i64 0])) ps).map .agg := by kernel_rfl
theorem sz163 : sizeT Tryz.prog 163 = some 4 := by kernel_rfl
theorem ag163 : isAggT Tryz.prog 163 = some true := by kernel_rfl
theorem zr163 : zeroT Tryz.prog 163 = some (.agg [.int .i64 0, .int .i64 0, .int .i64 0, .int .i64 0]) := by kernel_rfl
theorem by163 : bytesT Tryz.prog 163 = some 32 := by kernel_rfl
theorem fd163_0 : fieldT Tryz.prog 163 0 = some (0, 3) := by kernel_rfl
theorem fd163_1 : fieldT Tryz.prog 163 1 = some (1, 3) := by kernel_rfl
theorem fd163_2 : fieldT Tryz.prog 163 2 = some (2, 3) := by kernel_rfl
theorem fd163_3 : fieldT Tryz.prog 163 3 = some (3, 3) := by kernel_rfl
theorem bd163 (ps : List (Nat × D)) : buildD Tryz.prog 163 ps = (fillD (fun i => ([(0, 1), (1, 1), (2, 1), (3, 1)] : List (Nat × Nat))[i]?) (D.cells (.agg [.int .i64 0, .int .i64 0, .int .i64 0, .int .i64 0])) ps).map .agg := by kernel_rfl
theorem sz164 : sizeT Tryz.prog 164 = some 1 := by kernel_rfl
theorem ag164 : isAggT Tryz.prog 164 = some false := by kernel_rfl
theorem zr164 : zeroT Tryz.prog 164 = some (.niln) := by kernel_rfl
theorem by164 : bytesT Tryz.prog 164 = some 8 := by kernel_rfl
theorem sz165 : sizeT Tryz.prog 165 = some 1 := by kernel_rfl
theorem ag165 : isAggT Tryz.prog 165 = some false := by kernel_rfl
theorem zr165 : zeroT Tryz.prog 165 = some (.niln) := by kernel_rfl
theorem by165 : bytesT Tryz.prog 165 = some 8 := by kernel_rfl
theorem sz166 : sizeT Tryz.prog 166 = some 9 := by kernel_rfl
theorem ag166 : isAggT Tryz.prog 166 = some true := by kernel_rfl
theorem zr166 : zeroT Tryz.prog 166 = some (.agg [.int .i64 0, .int .i64 0, .int .i64 0, .int .i64 0, .int .i64 0, .int .i64 0, .int .i64 0, .int .i64 0, .int .i64 0]) := by kernel_rfl
theorem by166 : bytesT Tryz.prog 166 = some 72 := by kernel_rfl
theorem fd166_0 : fieldT Tryz.prog 166 0 = some (0, 3) := by kernel_rfl
theorem fd166_1 : fieldT Tryz.prog 166 1 = some (1, 163) := by kernel_rfl
theorem fd166_2 : fieldT Tryz.prog 166 2 = some (5, 163) := by kernel_rfl
theorem bd166 (ps : List (Nat × D)) : buildD Tryz.prog 166 ps = (fillD (fun i => ([(0, 1), (1, 4), (5, 4)] : List (Nat × Nat))[i]?) (D.cells (.agg [.int .i64 0, .int .i64 0, .int .i64 0, .int .i64 0, .int .i64 0, .int .i64 0, .int .i64 0, .int .i64 0, .int .i64 0])) ps).map .agg := by kernel_rfl
theorem sz167 : sizeT Tryz.prog 167 = some 9 := by kernel_rfl
theorem ag167 : isAggT Tryz.prog 167 = some true := by kernel_rfl
theorem zr167 : zeroT Tryz.prog 167 = some (.agg [.int .i64 0, .int .i64 0, .int .i64 0, .int .i64 0, .int .i64 0, .int .i64 0, .int .i64 0, .int .i64 0, .int .i64 0]) := by kernel_rfl
theorem by167 : bytesT Tryz.prog 167 = some 72 := by kernel_rfl
theorem fd167_0 : fieldT Tryz.prog 167 0 = some (0, 3) := by kernel_rfl
theorem fd167_1 : fieldT Tryz.prog 167 1 = some (1, 163) := by kernel_rfl
theorem fd167_2 : fieldT Tryz.prog 167 2 = some (5, 163) := by kernel_rfl
theorem bd167 (ps : List (Nat × D)) : buildD Tryz.prog 167 ps = (fillD (fun i => ([(0, 1), (1, 4), (5, 4)] : List (Nat × Nat))[i]?) (D.cells (.agg [.int .i64 0, .int .i64 0, .int .i64 0, .int .i64 0, .int .i64 0, .int .i64 0, .int .i64 0, .int .i64 0, .int .i64 0])) ps).map .agg := by kernel_rfl
theorem sz168 : sizeT Tryz.prog 168 = some 1 := by kernel_rfl
theorem ag168 : isAggT Tryz.prog 168 = some false := by kernel_rfl
theorem zr168 : zeroT Tryz.prog 168 = some (.niln) := by kernel_rfl
theorem by168 : bytesT Tryz.prog 168 = some 8 := by kernel_rfl
theorem sz169 : sizeT Tryz.prog 169 = some 1 := by kernel_rfl
theorem ag169 : isAggT Tryz.prog 169 = some false := by kernel_rfl
theorem zr169 : zeroT Tryz.prog 169 = some (.niln) := by kernel_rfl
theorem by169 : bytesT Tryz.prog 169 = some 8 := by kernel_rfl
theorem sz170 : sizeT Tryz.prog 170 = some 3 := by kernel_rfl
theorem ag170 : isAggT Tryz.prog 170 = some true := by kernel_rfl
theorem zr170 : zeroT Tryz.prog 170 = some (.agg [.bool false, .int .i64 0, .int .i64 0]) := by kernel_rfl
theorem by170 : bytesT Tryz.prog 170 = some 24 := by kernel_rfl
theorem fd170_0 : fieldT Tryz.prog 170 0 = some (0, 4) := by kernel_rfl
theorem fd170_1 : fieldT Tryz.prog 170 1 = some (1, 3) := by kernel_rfl
theorem fd170_2 : fieldT Tryz.prog 170 2 = some (2, 3) := by kernel_rfl
theorem bd170 (ps : List (Nat × D)) : buildD Tryz.prog 170 ps = (fillD (fun i => ([(0, 1), (1, 1), (2, 1)] : List (Nat × Nat))[i]?) (D.cells (.agg [.bool false, .int .i64 0, .int .i64 0])) ps).map .agg := by kernel_rfl
theorem sz171 : sizeT Tryz.prog 171 = some 3 := by kernel_rfl
theorem ag171 : isAggT Tryz.prog 171 = some true := by kernel_rfl
theorem zr171 : zeroT Tryz.prog 171 = some (.agg [.bool false, .int .i64 0, .int .i64 0]) := by kernel_rfl
theorem by171 : bytesT Tryz.prog 171 = some 24 := by kernel_rfl
theorem fd171_0 : fieldT Tryz.prog 171 0 = some (0, 4) := by kernel_rfl
theorem fd171_1 : fieldT Tryz.prog 171 1 = some (1, 3) := by kernel_rfl
theorem fd171_2 : fieldT Tryz.prog 171 2 = some (2, 3) := by kernel_rfl
theorem bd171 (ps : List (Nat × D)) : buildD Tryz.prog 171 ps = (fillD (fun i => ([(0, 1), (1, 1), (2, 1)] : List (Nat × Nat))[i]?) (D.cells (.agg [.bool false, .int .i64 0, .int .i64 0])) ps).map .agg := by kernel_rfl
theorem un172 : Tryz.prog.underlying 172 = some (.array 2 171) := by kernel_rfl
theorem sz172 : sizeT Tryz.prog 172 = some 6 := by kernel_rfl
theorem ag172 : isAggT Tryz.prog 172 = some true := by kernel_rfl
theorem zr172 : zeroT Tryz.prog 172 = some (.agg [.bool false, .int .i64 0, .int .i64 0, .bool false, .int .i64 0, .int .i64 0]) := by kernel_rfl
theorem by172 : bytesT Tryz.prog 172 = some 48 := by kernel_rfl
theorem bd172 (ps : List (Nat × D)) : buildD Tryz.prog 172 ps = (fillD (fun i => some (i * 3, 3)) (D.cells (.agg [.bool false, .int .i64 0, .int .i64 0, .bool false, .int .i64 0, .int .i64 0])) ps).map .agg := by kernel_rfl
theorem sz173 : sizeT Tryz.prog 173 = some 1 := by kernel_rfl
theorem ag173 : isAggT Tryz.prog 173 = some false := by kernel_rfl
theorem zr173 : zeroT Tryz.prog 173 = some (.niln) := by kernel_rfl
theorem by173 : bytesT Tryz.prog 173 = some 8 := by kernel_rfl
theorem sz174 : sizeT Tryz.prog 174 = some 4 := by kernel_rfl
theorem ag174 : isAggT Tryz.prog 174 = some true := by kernel_rfl
theorem zr174 : zeroT Tryz.prog 174 = some (.agg [.int .i64 0, .bool false, .int .i64 0, .int .i64 0]) := by kernel_rfl
theorem by174 : bytesT Tryz.prog 174 = some 32 := by kernel_rfl
theorem fd174_0 : fieldT Tryz.prog 174 0 = some (0, 3) := by kernel_rfl
theorem fd174_1 : fieldT Tryz.prog 174 1 = some (1, 171) := by kernel_rfl
theorem bd174 (ps : List (Nat × D)) : buildD Tryz.prog 174 ps = (fillD (fun i => ([(0, 1), (1, 3)] : List (Nat × Nat))[i]?) (D.cells (.agg [.int .i64 0, .bool false, .int .i64 0, .int .i64 0])) ps).map .agg := by kernel_rfl
theorem sz175 : sizeT Tryz.prog 175 = some 4 := by kernel_rfl
theorem ag175 : isAggT Tryz.prog 175 = some true := by kernel_rfl
theorem zr175 : zeroT Tryz.prog 175 = some (.agg [.int .i64 0, .bool false, .int .i64 0, .int .i64 0]) := by kernel_rfl
theorem by175 : bytesT Tryz.prog 175 = some 32 := by kernel_rfl
theorem fd175_0 : fieldT Tryz.prog 175 0 = some (0, 3) := by kernel_rfl
theorem fd175_1 : fieldT Tryz.prog 175 1 = some (1, 171) := by kernel_rfl
theorem bd175 (ps : List (Nat × D)) : buildD Tryz.prog 175 ps = (fillD (fun i => ([(0, 1), (1, 3)] : List (Nat × Nat))[i]?) (D.cells (.agg [.int .i64 0, .bool false, .int .i64 0, .int .i64 0])) ps).map .agg := by kernel_rfl
theorem sz176 : sizeT Tryz.prog 176 = some 1 := by kernel_rfl
theorem ag176 : isAggT Tryz.prog 176 = some false := by kernel_rfl
theorem zr176 : zeroT Tryz.prog 176 = some (.niln) := by kernel_rfl
theorem by176 : bytesT Tryz.prog 176 = some 8 := by kernel_rfl
theorem sz177 : sizeT Tryz.prog 177 = some 1 := by kernel_rfl
theorem ag177 : isAggT Tryz.prog 177 = some false := by kernel_rfl
theorem zr177 : zeroT Tryz.prog 177 = some (.niln) := by kernel_rfl
theorem by177 : bytesT Tryz.prog 177 = some 8 := by kernel_rfl
theorem sz178 : sizeT Tryz.prog 178 = some 1 := by kernel_rfl
theorem ag178 : isAggT Tryz.prog 178 = some false := by kernel_rfl
theorem zr178 : zeroT Tryz.prog 178 = some (.niln) := by kernel_rfl
theorem by178 : bytesT Tryz.prog 178 = some 8 := by kernel_rfl
theorem sz179 : sizeT Tryz.prog 179 = some 1 := by kernel_rfl
theorem ag179 : isAggT Tryz.prog 179 = some false := by kernel_rfl
theorem zr179 : zeroT Tryz.prog 179 = some (.niln) := by kernel_rfl
theorem by179 : bytesT Tryz.prog 179 = some 8 := by kernel_rfl
theorem sz180 : sizeT Tryz.prog 180 = some 1 := by kernel_rfl
theorem ag180 : isAggT Tryz.prog 180 = some false := by kernel_rfl
theorem zr180 : zeroT Tryz.prog 180 = some (.niln) := by kernel_rfl
theorem by180 : bytesT Tryz.prog 180 = some 8 := by kernel_rfl
theorem sz181 : sizeT Tryz.prog 181 = some 1 := by kernel_rfl
theorem ag181 : isAggT Tryz.prog 181 = some false := by kernel_rfl
theorem zr181 : zeroT Tryz.prog 181 = some (.niln) := by kernel_rfl
theorem by181 : bytesT Tryz.prog 181 = some 8 := by kernel_rfl
theorem ag182 : isAggT Tryz.prog 182 = some true := by kernel_rfl
theorem zr182 : zeroT Tryz.prog 182 = some (.agg []) := by kernel_rfl
theorem by182 : bytesT Tryz.prog 182 = some 0 := by kernel_rfl
theorem un184 : Tryz.prog.underlying 184 = some (.pointer 186) := by kernel_rfl
theorem sz184 : sizeT Tryz.prog 184 = some 1 := by kernel_rfl
theorem ag184 : isAggT Tryz.prog 184 = some false := by kernel_rfl
theorem zr184 : zeroT Tryz.prog 184 = some (.nilp) := by kernel_rfl
theorem by184 : bytesT Tryz.prog 184 = some 8 := by kernel_rfl
theorem sz185 : sizeT Tryz.prog 185 = some 2 := by kernel_rfl
theorem ag185 : isAggT Tryz.prog 185 = some true := by kernel_rfl
theorem by185 : bytesT Tryz.prog 185 = some 32 := by kernel_rfl
theorem fd185_0 : fieldT Tryz.prog 185 0 = some (0, 40) := by kernel_rfl
theorem fd185_1 : fieldT Tryz.prog 185 1 = some (1, 3) := by kernel_rfl
theorem sz186 : sizeT Tryz.prog 186 = some 2 := by kernel_rfl
theorem ag186 : isAggT Tryz.prog 186 = some true := by kernel_rfl
theorem by186 : bytesT Tryz.prog 186 = some 32 := by kernel_rfl
theorem fd186_0 : fieldT Tryz.prog 186 0 = some (0, 40) := by kernel_rfl
theorem fd186_1 : fieldT Tryz.prog 186 1 = some (1, 3) := by kernel_rfl
theorem sz187 : sizeT Tryz.prog 187 = some 1 := by kernel_rfl
theorem ag187 : isAggT Tryz.prog 187 = some false := by kernel_rfl
theorem zr187 : zeroT Tryz.prog 187 = some (.niln) := by kernel_rfl
theorem by187 : bytesT Tryz.prog 187 = some 8 := by kernel_rfl
theorem sz189 : sizeT Tryz.prog 189 = some 1 := by kernel_rfl
theorem ag189 : isAggT Tryz.prog 189 = some false := by kernel_rfl
theorem zr189 : zeroT Tryz.prog 189 = some (.niln) := by kernel_rfl
theorem by189 : bytesT Tryz.prog 189 = some 8 := by kernel_rfl
theorem un190 : Tryz.prog.underlying 190 = some (.array 8 3) := by kernel_rfl
theorem sz190 : sizeT Tryz.prog 190 = some 8 := by kernel_rfl
theorem ag190 : isAggT Tryz.prog 190 = some true := by kernel_rfl
theorem zr190 : zeroT Tryz.prog 190 = some (.agg [.int .i64 0, .int .i64 0, .int .i64 0, .int .i64 0, .int .i64 0, .int .i64 0, .int .i64 0, .int .i64 0]) := by kernel_rfl
theorem by190 : bytesT Tryz.prog 190 = some 64 := by kernel_rfl
theorem bd190 (ps : List (Nat × D)) : buildD Tryz.prog 190 ps = (fillD (fun i => some (i * 1, 1)) (D.cells (.agg [.int .i64 0, .int .i64 0, .int .i64 0, .int .i64 0, .int .i64 0, .int .i64 0, .int .i64 0, .int .i64 0])) ps).map .agg := by kernel_rfl
theorem sz191 : sizeT Tryz.prog 191 = some 2 := by kernel_rfl
theorem ag191 : isAggT Tryz.prog 191 = some true := by kernel_rfl
theorem zr191 : zeroT Tryz.prog 191 = some (.agg [.int .i64 0, .int .i64 0]) := by kernel_rfl
theorem by191 : bytesT Tryz.prog 191 = some 16 := by kernel_rfl
theorem fd191_0 : fieldT Tryz.prog 191 0 = some (0, 3) := by kernel_rfl
theorem fd191_1 : fieldT Tryz.prog 191 1 = some (1, 3) := by kernel_rfl
theorem bd191 (ps : List (Nat × D)) : buildD Tryz.prog 191 ps = (fillD (fun i => ([(0, 1), (1, 1)] : List (Nat × Nat))[i]?) (D.cells (.agg [.int .i64 0, .int .i64 0])) ps).map .agg := by kernel_rfl
theorem sz192 : sizeT Tryz.prog 192 = some 2 := by kernel_rfl
theorem ag192 : isAggT Tryz.prog 192 = some true := by kernel_rfl
theorem zr192 : zeroT Tryz.prog 192 = some (.agg [.int .i64 0, .int .i64 0]) := by kernel_rfl
theorem by192 : bytesT Tryz.prog 192 = some 16 := by kernel_rfl
theorem fd192_0 : fieldT Tryz.prog 192 0 = some (0, 3) := by kernel_rfl
theorem fd192_1 : fieldT Tryz.prog 192 1 = some (1, 3) := by kernel_rfl
theorem bd192 (ps : List (Nat × D)) : buildD Tryz.prog 192 ps = (fillD (fun i => ([(0, 1), (1, 1)] : List (Nat × Nat))[i]?) (D.cells (.agg [.int .i64 0, .int .i64 0])) ps).map .agg := by kernel_rfl
theorem sz194 : sizeT Tryz.prog 194 = some 1 := by kernel_rfl
theorem ag194 : isAggT Tryz.prog 194 = some false := by kernel_rfl
theorem zr194 : zeroT Tryz.prog 194 = some (.niln) := by kernel_rfl
theorem by194 : bytesT Tryz.prog 194 = some 8 := by kernel_rfl
theorem sz195 : sizeT Tryz.prog 195 = some 1 := by kernel_rfl
theorem ag195 : isAggT Tryz.prog 195 = some false := by kernel_rfl
theorem zr195 : zeroT Tryz.prog 195 = some (.niln) := by kernel_rfl
theorem by195 : bytesT Tryz.prog 195 = some 8 := by kernel_rfl
theorem sz196 : sizeT Tryz.prog 196 = some 1 := by kernel_rfl
theorem ag196 : isAggT Tryz.prog 196 = some false := by kernel_rfl
theorem zr196 : zeroT Tryz.prog 196 = some (.niln) := by kernel_rfl
theorem by196 : bytesT Tryz.prog 196 = some 8 := by kernel_rfl
theorem sz197 : sizeT Tryz.prog 197 = some 1 := by kernel_rfl
theorem ag197 : isAggT Tryz.prog 197 = some false := by kernel_rfl
theorem zr197 : zeroT Tryz.prog 197 = some (.niln) := by kernel_rfl
theorem by197 : bytesT Tryz.prog 197 = some 8 := by kernel_rfl
theorem sz198 : sizeT Tryz.prog 198 = some 4 := by kernel_rfl
theorem ag198 : isAggT Tryz.prog 198 = some true := by kernel_rfl
theorem zr198 : zeroT Tryz.prog 198 = some (.agg [.niln, .niln, .niln, .bool false]) := by kernel_rfl
theorem by198 : bytesT Tryz.prog 198 = some 32 := by kernel_rfl
theorem fd198_0 : fieldT Tryz.prog 198 0 = some (0, 197) := by kernel_rfl
theorem fd198_1 : fieldT Tryz.prog 198 1 = some (1, 197) := by kernel_rfl
theorem fd198_2 : fieldT Tryz.prog 198 2 = some (2, 197) := by kernel_rfl
theorem fd198_3 : fieldT Tryz.prog 198 3 = some (3, 4) := by kernel_rfl
theorem bd198 (ps : List (Nat × D)) : buildD Tryz.prog 198 ps = (fillD (fun i => ([(0, 1), (1, 1), (2, 1), (3, 1)] : List (Nat × Nat))[i]?) (D.cells (.agg [.niln, .niln, .niln, .bool false])) ps).map .agg := by kernel_rfl
theorem sz199 : sizeT Tryz.prog 199 = some 4 := by kernel_rfl
theorem ag199 : isAggT Tryz.prog 199 = some true := by kernel_rfl
theorem zr199 : zeroT Tryz.prog 199 = some (.agg [.niln, .niln, .niln, .bool false]) := by kernel_rfl
theorem by199 : bytesT Tryz.prog 199 = some 32 := by kernel_rfl
theorem fd199_0 : fieldT Tryz.prog 199 0 = some (0, 197) := by kernel_rfl
theorem fd199_1 : fieldT Tryz.prog 199 1 = some (1, 197) := by kernel_rfl
theorem fd199_2 : fieldT Tryz.prog 199 2 = some (2, 197) := by kernel_rfl
theorem fd199_3 : fieldT Tryz.prog 199 3 = some (3, 4) := by kernel_rfl
theorem bd199 (ps : List (Nat × D)) : buildD Tryz.prog 199 ps = (fillD (fun i => ([(0, 1), (1, 1), (2, 1), (3, 1)] : List (Nat × Nat))[i]?) (D.cells (.agg [.niln, .niln, .niln, .bool false])) ps).map .agg := by kernel_rfl
theorem sz200 : sizeT Tryz.prog 200 = some 1 := by kernel_rfl
theorem ag200 : isAggT Tryz.prog 200 = some false := by kernel_rfl
theorem zr200 : zeroT Tryz.prog 200 = some (.niln) := by kernel_rfl
theorem by200 : bytesT Tryz.prog 200 = some 8 := by kernel_rfl
theorem sz201 : sizeT Tryz.prog 201 = some 1 := by kernel_rfl
theorem ag201 : isAggT Tryz.prog 201 = some false := by kernel_rfl
theorem zr201 : zeroT Tryz.prog 201 = some (.niln) := by kernel_rfl
theorem by201 : bytesT Tryz.prog 201 = some 8 := by kernel_rfl
theorem sz202 : sizeT Tryz.prog 202 = some 1 := by kernel_rfl
theorem ag202 : isAggT Tryz.prog 202 = some false := by kernel_rfl
theorem zr202 : zeroT Tryz.prog 202 = some (.niln) := by kernel_rfl
theorem by202 : bytesT Tryz.prog 202 = some 8 := by kernel_rfl
theorem sz203 : sizeT Tryz.prog 203 = some 1 := by kernel_rfl
theorem ag203 : isAggT Tryz.prog 203 = some false := by kernel_rfl
theorem zr203 : zeroT Tryz.prog 203 = some (.niln) := by kernel_rfl
theorem by203 : bytesT Tryz.prog 203 = some 8 := by kernel_rfl
theorem sz204 : sizeT Tryz.prog 204 = some 1 := by kernel_rfl
theorem ag204 : isAggT Tryz.prog 204 = some false := by kernel_rfl
theorem zr204 : zeroT Tryz.prog 204 = some (.niln) := by kernel_rfl
theorem by204 : bytesT Tryz.prog 204 = some 8 := by kernel_rfl
theorem sz205 : sizeT Tryz.prog 205 = some 1 := by kernel_rfl
theorem ag205 : isAggT Tryz.prog 205 = some false := by kernel_rfl
theorem zr205 : zeroT Tryz.prog 205 = some (.niln) := by kernel_rfl
theorem by205 : bytesT Tryz.prog 205 = some 8 := by kernel_rfl
theorem un206 : Tryz.prog.underlying 206 = some (.int .i16) := by kernel_rfl
theorem sz206 : sizeT Tryz.prog 206 = some 1 := by kernel_rfl
theorem ag206 : isAggT Tryz.prog 206 = some false := by kernel_rfl
theorem zr206 : zeroT Tryz.prog 206 = some (.int .i16 0) := by kernel_rfl
theorem by206 : bytesT Tryz.prog 206 = some 2 := by kernel_rfl
theorem sz207 : sizeT Tryz.prog 207 = some 1 := by kernel_rfl
theorem ag207 : isAggT Tryz.prog 207 = some false := by kernel_rfl
theorem zr207 : zeroT Tryz.prog 207 = some (.niln) := by kernel_rfl
theorem by207 : bytesT Tryz.prog 207 = some 8 := by kernel_rfl
theorem sz208 : sizeT Tryz.prog 208 = some 3 := by kernel_rfl
theorem ag208 : isAggT Tryz.prog 208 = some true := by kernel_rfl
theorem zr208 : zeroT Tryz.prog 208 = some (.agg [.int .i64 0, .int .i64 0, .int .i64 0]) := by kernel_rfl
theorem by208 : bytesT Tryz.prog 208 = some 24 := by kernel_rfl
theorem fd208_0 : fieldT Tryz.prog 208 0 = some (0, 3) := by kernel_rfl
theorem fd208_1 : fieldT Tryz.prog 208 1 = some (1, 3) := by kernel_rfl
theorem fd208_2 : fieldT Tryz.prog 208 2 = some (2, 3) := by kernel_rfl
theorem bd208 (ps : List (Nat × D)) : buildD Tryz.prog 208 ps = (fillD (fun i => ([(0, 1), (1, 1), (2, 1)] : List (Nat × Nat))[i]?) (D.cells (.agg [.int .i64 0, .int .i64 0, .int .i64 0])) ps).map .agg := by kernel_rfl
theorem sz209 : sizeT Tryz.prog 209 = some 3 := by kernel_rfl
theorem ag209 : isAggT Tryz.prog 209 = some true := by kernel_rfl
theorem zr209 : zeroT Tryz.prog 209 = some (.agg [.int .i64 0, .int .i64 0, .int .i64 0]) := by kernel_rfl
theorem by209 : bytesT Tryz.prog 209 = some 24 := by kernel_rfl
theorem fd209_0 : fieldT Tryz.prog 209 0 = some (0, 3) := by kernel_rfl
theorem fd209_1 : fieldT Tryz.prog 209 1 = some (1, 3) := by kernel_rfl
theorem fd209_2 : fieldT Tryz.prog 209 2 = some (2, 3) := by kernel_rfl
theorem bd209 (ps : List (Nat × D)) : buildD Tryz.prog 209 ps = (fillD (fun i => ([(0, 1), (1, 1), (2, 1)] : List (Nat × Nat))[i]?) (D.cells (.agg [.int .i64 0, .int .i64 0, .int .i64 0])) ps).map .agg := by kernel_rfl
theorem un210 : Tryz.prog.underlying 210 = some (.slice 58) := by kernel_rfl
theorem sz210 : sizeT Tryz.prog 210 = some 1 := by kernel_rfl
theorem ag210 : isAggT Tryz.prog 210 = some false := by kernel_rfl
theorem zr210 : zeroT Tryz.prog 210 = some (.sl true []) := by kernel_rfl
theorem by210 : bytesT Tryz.prog 210 = some 24 := by kernel_rfl
theorem el210 : elemT Tryz.prog 210 = some 58 := by kernel_rfl
theorem sz212 : sizeT Tryz.prog 212 = some 1 := by kernel_rfl
theorem ag212 : isAggT Tryz.prog 212 = some false := by kernel_rfl
theorem zr212 : zeroT Tryz.prog 212 = some (.niln) := by kernel_rfl
theorem by212 : bytesT Tryz.prog 212 = some 8 := by kernel_rfl
theorem sz213 : sizeT Tryz.prog 213 = some 1 := by kernel_rfl
theorem ag213 : isAggT Tryz.prog 213 = some false := by kernel_rfl
theorem zr213 : zeroT Tryz.prog 213 = some (.niln) := by kernel_rfl
theorem by213 : bytesT Tryz.prog 213 = some 8 := by kernel_rfl
theorem sz214 : sizeT Tryz.prog 214 = some 1 := by kernel_rfl
theorem ag214 : isAggT Tryz.prog 214 = some false := by kernel_rfl
theorem zr214 : zeroT Tryz.prog 214 = some (.niln) := by kernel_rfl
theorem by214 : bytesT Tryz.prog 214 = some 8 := by kernel_rfl
theorem sz215 : sizeT Tryz.prog 215 = some 1 := by kernel_rfl
theorem ag215 : isAggT Tryz.prog 215 = some false := by kernel_rfl
theorem zr215 : zeroT Tryz.prog 215 = some (.niln) := by kernel_rfl
theorem by215 : bytesT Tryz.prog 215 = some 8 := by kernel_rfl
theorem sz216 : sizeT Tryz.prog 216 = some 1 := by kernel_rfl
theorem ag216 : isAggT Tryz.prog 216 = some false := by kernel_rfl
theorem zr216 : zeroT Tryz.prog 216 = some (.niln) := by kernel_rfl
theorem by216 : bytesT Tryz.prog 216 = some 8 := by kernel_rfl
theorem un219 : Tryz.prog.underlying 219 = some (.array 0 16) := by kernel_rfl
theorem ag219 : isAggT Tryz.prog 219 = some true := by kernel_rfl
theorem zr219 : zeroT Tryz.prog 219 = some (.agg []) := by kernel_rfl
theorem by219 : bytesT Tryz.prog 219 = some 0 := by kernel_rfl
theorem bd219 (ps : List (Nat × D)) : buildD Tryz.prog 219 ps = (fillD (fun i => some (i * 1, 1)) (D.cells (.agg [])) ps).map .agg := by kernel_rfl
theorem sz224 : sizeT Tryz.prog 224 = some 1 := by kernel_rfl
theorem ag224 : isAggT Tryz.prog 224 = some false := by kernel_rfl
theorem zr224 : zeroT Tryz.prog 224 = some (.niln) := by kernel_rfl
theorem by224 : bytesT Tryz.prog 224 = some 8 := by kernel_rfl
theorem un225 : Tryz.prog.underlying 225 = some (.pointer 5) := by kernel_rfl
theorem sz225 : sizeT Tryz.prog 225 = some 1 := by kernel_rfl
theorem ag225 : isAggT Tryz.prog 225 = some false := by kernel_rfl
theorem zr225 : zeroT Tryz.prog 225 = some (.nilp) := by kernel_rfl
theorem by225 : bytesT Tryz.prog 225 = some 8 := by kernel_rfl
theorem bo2 : bodied Tryz.prog 2 = true := by kernel_rfl
theorem bo3 : bodied Tryz.prog 3 = true := by kernel_rfl
theorem bo4 : bodied Tryz.prog 4 = true := by kernel_rfl
theorem bo5 : bodied Tryz.prog 5 = true := by kernel_rfl
theorem bo6 : bodied Tryz.prog 6 = true := by kernel_rfl
theorem bo7 : bodied Tryz.prog 7 = true := by kernel_rfl
theorem bo8 : bodied Tryz.prog 8 = true := by kernel_rfl
theorem bo9 : bodied Tryz.prog 9 = true := by kernel_rfl
theorem bo10 : bodied Tryz.prog 10 = true := by kernel_rfl
theorem bo11 : bodied Tryz.prog 11 = true := by kernel_rfl
theorem bo12 : bodied Tryz.prog 12 = true := by kernel_rfl
theorem bo13 : bodied Tryz.prog 13 = true := by kernel_rfl
theorem bo14 : bodied Tryz.prog 14 = true := by kernel_rfl
theorem bo15 : bodied Tryz.prog 15 = true := by kernel_rfl
theorem bo16 : bodied Tryz.prog 16 = true := by kernel_rfl
theorem bo17 : bodied Tryz.prog 17 = true := by kernel_rfl
theorem bo18 : bodied Tryz.prog 18 = true := by kernel_rfl
theorem bo19 : bodied Tryz.prog 19 = true := by kernel_rfl
theorem bo20 : bodied Tryz.prog 20 = true := by kernel_rfl
theorem bo21 : bodied Tryz.prog 21 = true := by kernel_rfl
theorem bo22 : bodied Tryz.prog 22 = true := by kernel_rfl
theorem bo23 : bodied Tryz.prog 23 = true := by kernel_rfl
theorem bo24 : bodied Tryz.prog 24 = true := by kernel_rfl
theorem bo25 : bodied Tryz.prog 25 = true := by kernel_rfl
theorem bo26 : bodied Tryz.prog 26 = true := by kernel_rfl
theorem bo27 : bodied Tryz.prog 27 = true := by kernel_rfl
theorem bo28 : bodied Tryz.prog 28 = true := by kernel_rfl
theorem bo29 : bodied Tryz.prog 29 = true := by kernel_rfl
theorem bo30 : bodied Tryz.prog 30 = true := by kernel_rfl
theorem bo31 : bodied Tryz.prog 31 = true := by kernel_rfl
theorem bo32 : bodied Tryz.prog 32 = true := by kernel_rfl
theorem bo33 : bodied Tryz.prog 33 = true := by kernel_rfl
theorem bo34 : bodied Tryz.prog 34 = true := by kernel_rfl
theorem bo35 : bodied Tryz.prog 35 = true := by kernel_rfl
theorem bo36 : bodied Tryz.prog 36 = true := by kernel_rfl
theorem bo37 : bodied Tryz.prog 37 = true := by kernel_rfl
theorem bo38 : bodied Tryz.prog 38 = true := by kernel_rfl
theorem bo39 : bodied Tryz.prog 39 = true := by kernel_rfl
theorem bo40 : bodied Tryz.prog 40 = true := by kernel_rfl
theorem bo41 : bodied Tryz.prog 41 = true := by kernel_rfl
theorem bo42 : bodied Tryz.prog 42 = true := by kernel_rfl
theorem bo43 : bodied Tryz.prog 43 = true := by kernel_rfl
theorem bo44 : bodied Tryz.prog 44 = true := by kernel_rfl
theorem bo45 : bodied Tryz.prog 45 = true := by kernel_rfl
theorem bo46 : bodied Tryz.prog 46 = true := by kernel_rfl
theorem bo47 : bodied Tryz.prog 47 = true := by kernel_rfl
theorem bo48 : bodied Tryz.prog 48 = true := by kernel_rfl
theorem bo49 : bodied Tryz.prog 49 = true := by kernel_rfl
theorem bo50 : bodied Tryz.prog 50 = true := by kernel_rfl
theorem bo51 : bodied Tryz.prog 51 = true := by kernel_rfl
theorem bo52 : bodied Tryz.prog 52 = true := by kernel_rfl
theorem bo53 : bodied Tryz.prog 53 = true := by kernel_rfl
theorem bo54 : bodied Tryz.prog 54 = true := by kernel_rfl
theorem bo55 : bodied Tryz.prog 55 = true := by kernel_rfl
theorem bo56 : bodied Tryz.prog 56 = true := by kernel_rfl
theorem bo57 : bodied Tryz.prog 57 = true := by kernel_rfl
theorem bo58 : bodied Tryz.prog 58 = true := by kernel_rfl
theorem bo59 : bodied Tryz.prog 59 = true := by kernel_rfl
theorem bo60 : bodied Tryz.prog 60 = true := by kernel_rfl
theorem bo61 : bodied Tryz.prog 61 = true := by kernel_rfl
theorem bo62 : bodied Tryz.prog 62 = true := by kernel_rfl
theorem bo63 : bodied Tryz.prog 63 = true := by kernel_rfl
theorem bo64 : bodied Tryz.prog 64 = true := by kernel_rfl
theorem bo65 : bodied Tryz.prog 65 = true := by kernel_rfl
theorem bo66 : bodied Tryz.prog 66 = true := by kernel_rfl
theorem bo67 : bodied Tryz.prog 67 = true := by kernel_rfl
theorem bo68 : bodied Tryz.prog 68 = true := by kernel_rfl
theorem bo69 : bodied Tryz.prog 69 = true := by kernel_rfl
theorem bo70 : bodied Tryz.prog 70 = true := by kernel_rfl
theorem bo71 : bodied Tryz.prog 71 = true := by kernel_rfl
theorem bo72 : bodied Tryz.prog 72 = true := by kernel_rfl
theorem bo73 : bodied Tryz.prog 73 = true := by kernel_rfl
theorem bo74 : bodied Tryz.prog 74 = true := by kernel_rfl
theorem bo75 : bodied Tryz.prog 75 = true := by kernel_rfl
theorem bo76 : bodied Tryz.prog 76 = true := by kernel_rfl
theorem bo77 : bodied Tryz.prog 77 = true := by kernel_rfl
theorem bo78 : bodied Tryz.prog 78 = true := by kernel_rfl
theorem bo79 : bodied Tryz.prog 79 = true := by kernel_rfl
theorem bo80 : bodied Tryz.prog 80 = true := by kernel_rfl
theorem bo81 : bodied Tryz.prog 81 = true := by kernel_rfl
theorem bo82 : bodied Tryz.prog 82 = true := by kernel_rfl
theorem bo83 : bodied Tryz.prog 83 = true := by kernel_rfl
theorem bo84 : bodied Tryz.prog 84 = true := by kernel_rfl
theorem bo85 : bodied Tryz.prog 85 = true := by kernel_rfl
theorem bo86 : bodied Tryz.prog 86 = true := by kernel_rfl
theorem bo87 : bodied Tryz.prog 87 = true := by kernel_rfl
theorem bo88 : bodied Tryz.prog 88 = true := by kernel_rfl
theorem bo89 : bodied Tryz.prog 89 = true := by kernel_rfl
theorem bo90 : bodied Tryz.prog 90 = true := by kernel_rfl
theorem bo91 : bodied Tryz.prog 91 = true := by kernel_rfl
theorem bo92 : bodied Tryz.prog 92 = true := by kernel_rfl
theorem bo93 : bodied Tryz.prog 93 = true := by kernel_rfl
theorem bo94 : bodied Tryz.prog 94 = true := by kernel_rfl
theorem bo95 : bodied Tryz.prog 95 = true := by kernel_rfl
theorem bo96 : bodied Tryz.prog 96 = true := by kernel_rfl
theorem bo97 : bodied Tryz.prog 97 = true := by kernel_rfl
theorem bo98 : bodied Tryz.prog 98 = true := by kernel_rfl
theorem bo99 : bodied Tryz.prog 99 = true := by kernel_rfl
theorem bo100 : bodied Tryz.prog 100 = true := by kernel_rfl
theorem bo101 : bodied Tryz.prog 101 = true := by kernel_rfl
theorem bo102 : bodied Tryz.prog 102 = true := by kernel_rfl
theorem bo103 : bodied Tryz.prog 103 = true := by kernel_rfl
theorem bo104 : bodied Tryz.prog 104 = true := by kernel_rfl
theorem bo105 : bodied Tryz.prog 105 = true := by kernel_rfl
theorem bo106 : bodied Tryz.prog 106 = true := by kernel_rfl
theorem bo107 : bodied Tryz.prog 107 = true := by kernel_rfl
theorem bo108 : bodied Tryz.prog 108 = true := by kernel_rfl
theorem bo109 : bodied Tryz.prog 109 = true := by kernel_rfl
theorem bo110 : bodied Tryz.prog 110 = true := by kernel_rfl
theorem bo111 : bodied Tryz.prog 111 = true := by kernel_rfl
theorem bo112 : bodied Tryz.prog 112 = true := by kernel_rfl
theorem bo113 : bodied Tryz.prog 113 = true := by kernel_rfl
theorem bo114 : bodied Tryz.prog 114 = true := by kernel_rfl
theorem bo115 : bodied Tryz.prog 115 = true := by kernel_rfl
theorem bo116 : bodied Tryz.prog 116 = true := by kernel_rfl
theorem bo117 : bodied Tryz.prog 117 = true := by kernel_rfl
theorem bo118 : bodied Tryz.prog 118 = true := by kernel_rfl
theorem bo119 : bodied Tryz.prog 119 = true := by kernel_rfl
theorem bo120 : bodied Tryz.prog 120 = true := by kernel_rfl
theorem bo121 : bodied Tryz.prog 121 = true := by kernel_rfl
theorem bo122 : bodied Tryz.prog 122 = true := by kernel_rfl
theorem bo123 : bodied Tryz.prog 123 = true := by kernel_rfl
theorem bo124 : bodied Tryz.prog 124 = true := by kernel_rfl
theorem bo125 : bodied Tryz.prog 125 = true := by kernel_rfl
theorem bo126 : bodied Tryz.prog 126 = true := by kernel_rfl
theorem bo127 : bodied Tryz.prog 127 = true := by kernel_rfl
theorem bo128 : bodied Tryz.prog 128 = true := by kernel_rfl
theorem bo129 : bodied Tryz.prog 129 = true := by kernel_rfl
theorem bo130 : bodied Tryz.prog 130 = true := by kernel_rfl
theorem bo131 : bodied Tryz.prog 131 = true := by kernel_rfl
theorem bo132 : bodied Tryz.prog 132 = true := by kernel_rfl
theorem bo133 : bodied Tryz.prog 133 = true := by kernel_rfl
theorem bo134 : bodied Tryz.prog 134 = true := by kernel_rfl
theorem bo135 : bodied Tryz.prog 135 = true := by kernel_rfl
theorem bo136 : bodied Tryz.prog 136 = true := by kernel_rfl
theorem bo137 : bodied Tryz.prog 137 = true := by kernel_rfl
theorem bo138 : bodied Tryz.prog 138 = true := by kernel_rfl
attribute [go_sem] sz1 ag1 zr1 by1 un2 sz2 ag2 zr2 by2 un3 sz3 ag3 zr3 by3 un4 sz4 ag4 zr4 by4 un5 sz5 ag5 zr5 by5 un9 sz9 ag9 zr9 by9 sz20 ag20 zr20 by20 un21 sz21 ag21 zr21 by21 un22 sz22
attribute [go_sem] ag22 zr22 by22 el22 un23 sz23 ag23 zr23 by23 el23 un24 sz24 ag24 zr24 by24 el24 sz25 ag25 by25 fd25_0 fd25_1 fd25_2 sz26 ag26 by26 fd26_0 fd26_1 fd26_2 un27 sz27 ag27 zr27 by27 el27 sz28 ag28 zr28 by28 sz29 ag29
attribute [go_sem] zr29 by29 fd29_0 fd29_1 bd29 sz30 ag30 zr30 by30 fd30_0 fd30_1 bd30 sz31 ag31 zr31 by31 fd31_0 fd31_1 bd31 sz32 ag32 zr32 by32 fd32_0 fd32_1 bd32 sz34 ag34 zr34 by34 sz35 ag35 zr35 by35 sz36 ag36 zr36 by36 sz37 ag37
attribute [go_sem] zr37 by37 sz39 ag39 zr39 by39 un40 sz40 ag40 zr40 by40 el40 un41 sz41 ag41 zr41 by41 bd41 sz42 ag42 zr42 by42 sz43 ag43 zr43 by43 ag44 zr44 by44 ag45 zr45 by45 un47 sz47 ag47 zr47 by47 sz48 ag48 by48
attribute [go_sem] fd48_0 fd48_1 fd48_2 sz49 ag49 by49 fd49_0 fd49_1 fd49_2 sz50 ag50 zr50 by50 sz51 ag51 zr51 by51 sz52 ag52 zr52 by52 un53 sz53 ag53 zr53 by53 sz55 ag55 zr55 by55 sz56 ag56 zr56 by56 sz57 ag57 zr57 by57 un58 sz58
attribute [go_sem] ag58 zr58 by58 bd58 sz59 ag59 zr59 by59 sz60 ag60 zr60 by60 sz61 ag61 zr61 by61 sz62 ag62 zr62 by62 sz63 ag63 zr63 by63 sz64 ag64 zr64 by64 un65 sz65 ag65 zr65 by65 el65 sz66 ag66 zr66 by66 fd66_0 fd66_1
attribute [go_sem] fd66_2 fd66_3 bd66 sz67 ag67 zr67 by67 fd67_0 fd67_1 fd67_2 fd67_3 bd67 sz69 ag69 zr69 by69 sz70 ag70 zr70 by70 sz71 ag71 zr71 by71 sz72 ag72 zr72 by72 un73 sz73 ag73 zr73 by73 sz75 ag75 zr75 by75 sz76 ag76 zr76
attribute [go_sem] by76 sz77 ag77 zr77 by77 sz78 ag78 zr78 by78 sz79 ag79 zr79 by79 sz80 ag80 zr80 by80 un81 sz81 ag81 zr81 by81 sz82 ag82 zr82 by82 un83 sz83 ag83 zr83 by83 sz84 ag84 zr84 by84 sz85 ag85 zr85 by85 sz87
attribute [go_sem] ag87 zr87 by87 un88 sz88 ag88 zr88 by88 el88 un89 sz89 ag89 zr89 by89 el89 un90 sz90 ag90 zr90 by90 el90 un91 sz91 ag91 zr91 by91 el91 un92 sz92 ag92 zr92 by92 el92 un93 sz93 ag93 zr93 by93 el93 un94
attribute [go_sem] sz94 ag94 zr94 by94 el94 un95 sz95 ag95 zr95 by95 el95 un96 sz96 ag96 zr96 by96 el96 un97 sz97 ag97 zr97 by97 el97 sz98 ag98 by98 fd98_0 fd98_1 fd98_2 fd98_3 fd98_4 fd98_5 fd98_6 fd98_7 fd98_8 fd98_9 fd98_10 fd98_11 fd98_12 fd98_13
attribute [go_sem] fd98_14 fd98_15 sz99 ag99 by99 fd99_0 fd99_1 fd99_2 fd99_3 fd99_4 fd99_5 fd99_6 fd99_7 fd99_8 fd99_9 fd99_10 fd99_11 fd99_12 fd99_13 fd99_14 fd99_15 sz101 ag101 zr101 by101 sz102 ag102 zr102 by102 sz103 ag103 zr103 by103 sz104 ag104 zr104 by104 un105 sz105 ag105
attribute [go_sem] zr105 by105 el105 un106 sz106 ag106 zr106 by106 el106 sz107 ag107 by107 fd107_0 fd107_1 fd107_2 fd107_3 sz108 ag108 by108 fd108_0 fd108_1 fd108_2 fd108_3 sz109 ag109 zr109 by109 sz110 ag110 zr110 by110 fd110_0 fd110_1 bd110 sz111 ag111 zr111 by111 fd111_0 fd111_1
attribute [go_sem] bd111 sz112 ag112 zr112 by112 un113 sz113 ag113 zr113 by113 sz114 ag114 zr114 by114 sz115 ag115 zr115 by115 sz116 ag116 zr116 by116 un117 sz117 ag117 zr117 by117 sz118 ag118 zr118 by118 sz119 ag119 zr119 by119 sz121 ag121 zr121 by121 sz122
attribute [go_sem] ag122 zr122 by122 sz123 ag123 zr123 by123 ag124 zr124 by124 sz126 ag126 zr126 by126 un127 sz127 ag127 zr127 by127 el127 un128 sz128 ag128 zr128 by128 el128 un129 sz129 ag129 zr129 by129 el129 un130 sz130 ag130 zr130 by130 el130 ag131 zr131
attribute [go_sem] by131 sz133 ag133 zr133 by133 un134 sz134 ag134 zr134 by134 el134 sz135 ag135 by135 fd135_0 fd135_1 sz136 ag136 by136 fd136_0 fd136_1 un137 sz137 ag137 zr137 by137 el137 sz138 ag138 by138 fd138_0 fd138_1 sz139 ag139 by139 fd139_0 fd139_1 sz140 ag140 zr140
attribute [go_sem] by140 sz141 ag141 zr141 by141 un142 sz142 ag142 zr142 by142 sz144 ag144 zr144 by144 un145 sz145 ag145 zr145 by145 sz146 ag146 by146 fd146_0 fd146_1 fd146_2 sz147 ag147 by147 fd147_0 fd147_1 fd147_2 sz148 ag148 zr148 by148 sz149 ag149 zr149 by149 sz150
attribute [go_sem] ag150 zr150 by150 sz151 ag151 zr151 by151 un152 sz152 ag152 zr152 by152 sz153 ag153 by153 fd153_0 fd153_1 fd153_2 sz154 ag154 by154 fd154_0 fd154_1 fd154_2 sz155 ag155 zr155 by155 sz157 ag157 zr157 by157 sz158 ag158 zr158 by158 sz159 ag159 zr159 by159
attribute [go_sem] sz160 ag160 zr160 by160 sz161 ag161 zr161 by161 sz162 ag162 zr162 by162 fd162_0 fd162_1 fd162_2 fd162_3 bd162 sz163 ag163 zr163 by163 fd163_0 fd163_1 fd163_2 fd163_3 bd163 sz164 ag164 zr164 by164 sz165 ag165 zr165 by165 sz166 ag166 zr166 by166 fd166_0 fd166_1
attribute [go_sem] fd166_2 bd166 sz167 ag167 zr167 by167 fd167_0 fd167_1 fd167_2 bd167 sz168 ag168 zr168 by168 sz169 ag169 zr169 by169 sz170 ag170 zr170 by170 fd170_0 fd170_1 fd170_2 bd170 sz171 ag171 zr171 by171 fd171_0 fd171_1 fd171_2 bd171 un172 sz172 ag172 zr172 by172 bd172
attribute [go_sem] sz173 ag173 zr173 by173 sz174 ag174 zr174 by174 fd174_0 fd174_1 bd174 sz175 ag175 zr175 by175 fd175_0 fd175_1 bd175 sz176 ag176 zr176 by176 sz177 ag177 zr177 by177 sz178 ag178 zr178 by178 sz179 ag179 zr179 by179 sz180 ag180 zr180 by180 sz181 ag181
attribute [go_sem] zr181 by181 ag182 zr182 by182 un184 sz184 ag184 zr184 by184 sz185 ag185 by185 fd185_0 fd185_1 sz186 ag186 by186 fd186_0 fd186_1 sz187 ag187 zr187 by187 sz189 ag189 zr189 by189 un190 sz190 ag190 zr190 by190 bd190 sz191 ag191 zr191 by191 fd191_0 fd191_1
attribute [go_sem] bd191 sz192 ag192 zr192 by192 fd192_0 fd192_1 bd192 sz194 ag194 zr194 by194 sz195 ag195 zr195 by195 sz196 ag196 zr196 by196 sz197 ag197 zr197 by197 sz198 ag198 zr198 by198 fd198_0 fd198_1 fd198_2 fd198_3 bd198 sz199 ag199 zr199 by199 fd199_0 fd199_1 fd199_2
attribute [go_sem] fd199_3 bd199 sz200 ag200 zr200 by200 sz201 ag201 zr201 by201 sz202 ag202 zr202 by202 sz203 ag203 zr203 by203 sz204 ag204 zr204 by204 sz205 ag205 zr205 by205 un206 sz206 ag206 zr206 by206 sz207 ag207 zr207 by207 sz208 ag208 zr208 by208 fd208_0
attribute [go_sem] fd208_1 fd208_2 bd208 sz209 ag209 zr209 by209 fd209_0 fd209_1 fd209_2 bd209 un210 sz210 ag210 zr210 by210 el210 sz212 ag212 zr212 by212 sz213 ag213 zr213 by213 sz214 ag214 zr214 by214 sz215 ag215 zr215 by215 sz216 ag216 zr216 by216 un219 ag219 zr219
attribute [go_sem] by219 bd219 sz224 ag224 zr224 by224 un225 sz225 ag225 zr225 by225
end Go.Proofs.Zs14
end
/- What a statement's arguments read as, as the interpreter's data. -/
section
set_option linter.unusedVariables false
set_option linter.unusedSimpArgs false
namespace Vm
open Go Go.RowKit
variable [Base]

/-- the fields of a struct lie one behind the other -/
def laysT (P : Program) : Nat → List Field → Option Nat
  | off, [] => some off
  | off, f :: r => if f.offset = off then laysT P (off + P.cellsOf f.type) r else none
/-- types of plain data: numbers, bools, texts, slices, structs and arrays of these; their parts are in a set -/
def plain1 (P : Program) (S : List TypeId) (t : TypeId) : Bool :=
  match P.underlying t with
  | some .bool | some (.int _) | some .string => P.cellsOf t == 1
  | some (.slice e) => P.cellsOf t == 1 && S.contains e && decide (0 < P.cellsOf e)
  | some (.struct fs) => (laysT P 0 fs.toList == some (P.cellsOf t)) && fs.toList.all fun f => S.contains f.type
  | some (.array n e) => (P.cellsOf t == n * P.cellsOf e) && S.contains e
  | _ => false
/-- a set of types whose parts are in it -/
def plainS (P : Program) (S : List TypeId) : Bool := S.all (plain1 P S)
omit [Base] in
theorem plain1_of {P : Program} {S : List TypeId} (h : plainS P S = true) {t : TypeId} (ht : S.contains t = true) : plain1 P S t = true :=
  List.all_eq_true.1 h t (by simpa using ht)
def aggT (P : Program) (t : TypeId) : Bool := (isAggT P t).getD false
mutual
/-- cells of a type -/
inductive Typed (P : Program) : TypeId → List D → Prop
  | bool (t : TypeId) (b : Bool) (h : P.underlying t = some .bool) : Typed P t [.bool b]
  | int (t : TypeId) (k : IntKind) (n : Int) (h : P.underlying t = some (.int k)) (hn : (Lit.int k n).wf = true) : Typed P t [.int k n]
  | str (t : TypeId) (s : List UInt8) (h : P.underlying t = some .string) (hs : s.length ≤ maxLen) : Typed P t [.str s]
  | slice (t e : TypeId) (xs : List D) (h : P.underlying t = some (.slice e)) (hl : xs.length ≤ maxLen) (hx : TypedE P e xs) : Typed P t [.sl false xs]
  | struct (t : TypeId) (fs : Array Field) (ds : List D) (h : P.underlying t = some (.struct fs)) (hf : TypedF P (fs.toList.map (·.type)) ds) : Typed P t ds
  | array (t e : TypeId) (n : Nat) (ds : List D) (h : P.underlying t = some (.array n e)) (hf : TypedF P (List.replicate n e) ds) : Typed P t ds
/-- elements of a type -/
inductive TypedE (P : Program) : TypeId → List D → Prop
  | nil (e : TypeId) : TypedE P e []
  | agg (e : TypeId) (cs : List D) (xs : List D) (ha : aggT P e = true) (h : Typed P e cs) (hr : TypedE P e xs) : TypedE P e (.agg cs :: xs)
  | one (e : TypeId) (x : D) (xs : List D) (ha : aggT P e = false) (h : Typed P e [x]) (hr : TypedE P e xs) : TypedE P e (x :: xs)
/-- cells of types, one behind the other -/
inductive TypedF (P : Program) : List TypeId → List D → Prop
  | nil : TypedF P [] []
  | cons (t : TypeId) (ts : List TypeId) (ds es : List D) (h : Typed P t ds) (hr : TypedF P ts es) : TypedF P (t :: ts) (ds ++ es)
end
/-- arguments of types -/
inductive TypedA (P : Program) : List TypeId → List D → Prop
  | nil : TypedA P [] []
  | agg (t : TypeId) (ts : List TypeId) (cs ds : List D) (ha : aggT P t = true) (h : Typed P t cs) (hr : TypedA P ts ds) : TypedA P (t :: ts) (.agg cs :: ds)
  | one (t : TypeId) (ts : List TypeId) (d : D) (ds : List D) (ha : aggT P t = false) (h : Typed P t [d]) (hr : TypedA P ts ds) : TypedA P (t :: ts) (d :: ds)

def im0 (w : World) : Im := fun b o => w.cell? ⟨b, o, none⟩
theorem rel0 (w : World) (ρ : Rho) (hB : ∀ b o v, Base.B b o = some v → im0 w b o = some v) : Rel ρ (im0 w) [] w :=
  ⟨fun b o v h => h, fun r hr => by simp at hr, fun r s hr => by simp at hr, fun r hr => by simp at hr, hB, fun r hr => by simp at hr⟩

omit [Base] in
theorem laysT_le {P : Program} : ∀ {fs : List Field} {off tot : Nat}, laysT P off fs = some tot → off ≤ tot
  | [], off, tot, h => by simp [laysT] at h; omega
  | f :: r, off, tot, h => by
    simp only [laysT] at h
    split at h
    · have := laysT_le h; omega
    · cases h
omit [Base] in
theorem cells?_spec {w : World} {a : Addr} {m : Nat} {cs : List Value} (h : w.cells? 0 a m = some cs) : cs.length = m ∧ ∀ j, j < m → w.cell? (a.add j) = cs[j]? := by
  unfold World.cells? at h
  rw [if_pos (Nat.zero_le _)] at h
  have key : ∀ (l : List Nat) (cs : List Value), l.mapM (fun i => w.cell? (a.add i)) = some cs → cs.length = l.length ∧ ∀ (j : Nat) (i : Nat), l[j]? = some i → w.cell? (a.add i) = cs[j]? := by
    intro l
    induction l with
    | nil => intro cs h; simp at h; subst h; simp
    | cons x l ih =>
      intro cs h
      rw [List.mapM_cons] at h
      cases hx : w.cell? (a.add x) with
      | none => simp [hx] at h
      | some v =>
        cases hl : l.mapM (fun i => w.cell? (a.add i)) with
        | none => simp [hx, hl] at h
        | some vs =>
          simp [hx, hl] at h; subst h
          obtain ⟨h1, h2⟩ := ih vs hl
          refine ⟨by simp [h1], fun j i hj => ?_⟩
          cases j with
          | zero => simp at hj; subst hj; simp [hx]
          | succ j => simpa using h2 j i (by simpa using hj)
  obtain ⟨h1, h2⟩ := key _ _ h
  refine ⟨by simpa using h1, fun j hj => h2 j j (by simp [hj])⟩
omit [Base] in
theorem add_add (a : Addr) (x y : Nat) (hs : a.spot = none) : (a.add x).add y = a.add (x + y) := by
  obtain ⟨b, o, s⟩ := a
  simp at hs; subst hs
  simp [add_plain, Nat.add_assoc]
omit [Base] in
theorem typed_one {P : Program} {t : TypeId} {ds : List D} (h : Typed P t ds) (ha : aggT P t = false) : ∃ d, ds = [d] ∧ (∀ cs, d ≠ .agg cs) := by
  cases h with
  | bool b h => exact ⟨_, rfl, fun cs h => by cases h⟩
  | int k n h hn => exact ⟨_, rfl, fun cs h => by cases h⟩
  | str s h hs => exact ⟨_, rfl, fun cs h => by cases h⟩
  | slice e xs h hl hx => exact ⟨_, rfl, fun cs h => by cases h⟩
  | struct => rename_i h hf; simp [aggT, isAggT, h] at ha
  | array => rename_i h hf; simp [aggT, isAggT, h] at ha
section
variable {H : Type} {enc : TypeId × Value → H} {P : Program} {w : World} {spare : Nat → Bool} {ρ : Rho} {n : Nat}
omit [Base] in
theorem trod_struct_eq {k : Nat} {t : TypeId} {cs : List Value} {fs : Array Field} (hu : P.underlying t = some (.struct fs)) : DataW.trod enc P w 0 spare true (k + 1) t cs =
    if cs.length = P.cellsOf t then (fs.toList.mapM fun f => DataW.trod enc P w 0 spare true k f.type ((cs.drop f.offset).take (P.cellsOf f.type))).map fun xs => (.agg (xs.map (·.1)), xs.flatMap (·.2)) else none := by
  conv => lhs; unfold DataW.trod
  rw [hu]
omit [Base] in
theorem trod_array_eq {k m : Nat} {t e : TypeId} {cs : List Value} (hu : P.underlying t = some (.array m e)) : DataW.trod enc P w 0 spare true (k + 1) t cs =
    if cs.length = P.cellsOf t then ((List.range m).mapM fun i => DataW.trod enc P w 0 spare true k e ((cs.drop (i * P.cellsOf e)).take (P.cellsOf e))).map fun xs => (.agg (xs.map (·.1)), xs.flatMap (·.2)) else none := by
  conv => lhs; unfold DataW.trod
  rw [hu]
omit [Base] in
theorem trod_typed {S : List TypeId} (hS : plainS P S = true) : ∀ (k : Nat) (t : TypeId) (cs : List Value) (x : DataW H × List MemPlace), DataW.trod enc P w 0 spare true k t cs = some x → S.contains t = true →
    ∃ ds, RepL ρ n (im0 w) cs ds ∧ Typed P t ds
  | 0, t, cs, x, h, hp => by simp [DataW.trod] at h
  | k + 1, t, cs, x, h, hp => by
    have ih := fun t cs x => trod_typed hS k t cs x
    replace hp := plain1_of hS hp
    simp only [plain1] at hp
    cases hu : P.underlying t with
    | none => simp [hu] at hp
    | some td =>
      rw [hu] at hp
      have h' := h
      unfold DataW.trod at h
      rw [hu] at h
      cases td <;> simp only at hp <;> try (cases hp; done)
      case bool =>
        split at h <;> rename_i heq <;> first | (cases heq; done) | skip
        all_goals (first | (cases h; done) | skip)
        rename_i b
        exact ⟨[.bool b], .cons _ _ _ _ rfl (.bool b) .nil, .bool t b hu⟩
      case int kk =>
        split at h <;> rename_i heq <;> first | (cases heq; done) | skip
        all_goals (first | (cases h; done) | skip)
        cases heq
        split at h
        · rename_i hc
          obtain ⟨rfl, hw⟩ := hc
          exact ⟨[.int _ _], .cons _ _ _ _ rfl (.int _ _) .nil, .int t _ _ hu hw⟩
        · cases h
      case string =>
        split at h <;> rename_i heq <;> first | (cases heq; done) | skip
        all_goals (first | (cases h; done) | skip)
        rename_i s
        split at h
        · rename_i hc
          have hl : s.data.toList.length = s.size := by rw [Array.length_toList]; rfl
          exact ⟨[.str s.data.toList], .cons _ _ _ _ rfl (.str s) .nil, .str t _ hu (by omega)⟩
        · cases h
      case slice e =>
        simp only [Bool.and_eq_true, decide_eq_true_eq] at hp
        obtain ⟨⟨_, hpe⟩, hpos⟩ := hp
        split at h <;> rename_i heq <;> first | (cases heq; done) | skip
        all_goals (first | (cases h; done) | skip)
        · cases heq
          exact ⟨[.sl false []], .cons _ _ _ _ rfl (.sl0 _ _ _ (by simp)) .nil, .slice t e [] hu (Nat.zero_le _) (.nil e)⟩
        · rename_i a len cap
          cases heq
          split at h
          · rename_i hc
            obtain ⟨_, hlc, hcm⟩ := hc
            dsimp only at h
            cases hm : (List.range len).mapM (fun i => (w.cells? 0 (a.add (i * P.cellsOf e)) (P.cellsOf e)).bind (DataW.trod enc P w 0 spare true k e)) with
            | none => rw [hm] at h; simp at h
            | some elems =>
              -- element by element
              have key : ∀ (l : List Nat) (el : List (DataW H × List MemPlace)), l.mapM (fun i => (w.cells? 0 (a.add (i * P.cellsOf e)) (P.cellsOf e)).bind (DataW.trod enc P w 0 spare true k e)) = some el →
                  ∀ s, (∀ (j i : Nat), l[j]? = some i → i = s + j) → (l ≠ [] → a.spot = none) →
                  ∃ xs vs, xs.length = l.length ∧ TypedE P e xs ∧ RepL ρ n (im0 w) vs (flatC xs) ∧ (∀ y, y ∈ xs → y.cells.length = P.cellsOf e) ∧ ∀ q, q < vs.length → w.cell? (a.add (s * P.cellsOf e + q)) = vs[q]? := by
                intro l
                induction l with
                | nil => intro el _ s _ _; exact ⟨[], [], rfl, .nil e, .nil, by simp, by simp⟩
                | cons i l ihl =>
                  intro el hel s hs hsp
                  rw [List.mapM_cons] at hel
                  have hi : i = s := by simpa using hs 0 i rfl
                  subst hi
                  cases hcs : w.cells? 0 (a.add (i * P.cellsOf e)) (P.cellsOf e) with
                  | none => simp [hcs] at hel
                  | some ci =>
                    cases htr : DataW.trod enc P w 0 spare true k e ci with
                    | none => simp [hcs, htr] at hel
                    | some xi =>
                      cases hrest : l.mapM (fun i => (w.cells? 0 (a.add (i * P.cellsOf e)) (P.cellsOf e)).bind (DataW.trod enc P w 0 spare true k e)) with
                      | none => simp [hcs, htr, hrest] at hel
                      | some er =>
                        obtain ⟨ds, hds, hty⟩ := ih e ci xi htr hpe
                        obtain ⟨hcl, hcell⟩ := cells?_spec hcs
                        have hsp' := hsp (by simp)
                        obtain ⟨xs, vs, h1, h2, h3, h4, h5⟩ := ihl er hrest (i + 1) (fun j i' hj => by have := hs (j + 1) i' (by simpa using hj); omega) (fun _ => hsp')
                        have hdl : ds.length = P.cellsOf e := by rw [← hds.length, hcl]
                        have fin : ∀ x : D, x.cells = ds → TypedE P e (x :: xs) → ∃ xs vs, xs.length = (i :: l).length ∧ TypedE P e xs ∧ RepL ρ n (im0 w) vs (flatC xs) ∧ (∀ y, y ∈ xs → y.cells.length = P.cellsOf e) ∧ ∀ q, q < vs.length → w.cell? (a.add (i * P.cellsOf e + q)) = vs[q]? := by
                          intro x hxc hte
                          refine ⟨x :: xs, ci ++ vs, by simp [h1], hte, ?_, ?_, ?_⟩
                          · simp only [flatC, List.flatMap_cons, hxc]; exact hds.append h3
                          · intro y hy
                            rcases List.mem_cons.1 hy with rfl | hy
                            · rw [hxc]; exact hdl
                            · exact h4 y hy
                          · intro q hq
                            rcases Nat.lt_or_ge q ci.length with hlt | hge
                            · rw [List.getElem?_append_left hlt, ← hcell q (by omega), add_add a _ _ hsp']
                            · rw [List.getElem?_append_right hge, ← h5 (q - ci.length) (by simp at hq; omega)]
                              congr 2
                              rw [Nat.add_mul]; omega
                        cases ha : aggT P e with
                        | true => exact fin (.agg ds) rfl (.agg e ds xs ha hty h2)
                        | false =>
                          obtain ⟨d, rfl, hna⟩ := typed_one hty ha
                          exact fin d (by cases d <;> first | rfl | exact (hna _ rfl).elim) (.one e d xs ha hty h2)
              have hspot : List.range len ≠ [] → a.spot = none := by
                intro hne
                have hl0 : 0 < len := by cases len with
                  | zero => simp at hne
                  | succ _ => omega
                obtain ⟨l', hl'⟩ : ∃ l', List.range len = 0 :: l' := ⟨(List.range len).tail, by cases len with
                  | zero => omega
                  | succ m => simp [List.range_succ_eq_map]⟩
                rw [hl', List.mapM_cons] at hm
                cases hcs : w.cells? 0 (a.add (0 * P.cellsOf e)) (P.cellsOf e) with
                | none => simp only [hcs] at hm; simp at hm
                | some ci =>
                  obtain ⟨hcl, hcell⟩ := cells?_spec hcs
                  have h0 := hcell 0 hpos
                  rw [List.getElem?_eq_getElem (by omega)] at h0
                  have e1 : (a.add (0 * P.cellsOf e)).add 0 = a := by simp [Addr.add]
                  rw [e1] at h0
                  unfold World.cell? at h0
                  split at h0
                  · split at h0
                    · cases h0
                    · rename_i hs; simpa using hs
                  · cases h0
              obtain ⟨xs, vs, h1, h2, h3, h4, h5⟩ := key (List.range len) elems hm 0 (fun j i hj => by
                rw [List.getElem?_range] at hj
                · simp at hj; omega
                · rcases Nat.lt_or_ge j len with h | h
                  · exact h
                  · rw [List.getElem?_eq_none (by simpa using h)] at hj; cases hj) hspot
              have hxl : xs.length = len := by simpa using h1
              cases hxs : xs with
              | nil =>
                subst hxs
                simp at hxl; subst hxl
                exact ⟨[.sl false []], .cons _ _ _ _ rfl (.sl0 _ _ _ (by simp)) .nil, .slice t e [] hu (Nat.zero_le _) (.nil e)⟩
              | cons x xr =>
                have hsn := hspot (by rw [hxs] at hxl; simp at hxl; intro h0; have := congrArg List.length h0; simp at this; omega)
                obtain ⟨b, o, sp⟩ := a
                simp at hsn; subst hsn
                refine ⟨[.sl false xs], .cons _ _ _ _ rfl ?_ .nil, .slice t e xs hu (by omega) h2⟩
                rw [← hxl]
                refine .sl b o (P.cellsOf e) cap false xs vs h4 (fun q hq => ?_) h3 (by simp) (by omega)
                have := h5 q hq
                rw [add_plain] at this
                simpa [im0] using this
          · cases h
      case struct fs =>
        simp only [Bool.and_eq_true, beq_iff_eq, List.all_eq_true] at hp
        obtain ⟨hlay, hall⟩ := hp
        have hbody : cs.length = P.cellsOf t ∧ ∃ xs, (fs.toList.mapM fun f => DataW.trod enc P w 0 spare true k f.type ((cs.drop f.offset).take (P.cellsOf f.type))) = some xs := by
          rw [trod_struct_eq hu] at h'
          split at h'
          · rename_i hc
            cases hm : (fs.toList.mapM fun f => DataW.trod enc P w 0 spare true k f.type ((cs.drop f.offset).take (P.cellsOf f.type))) with
            | none => simp [hm] at h'
            | some xs => exact ⟨hc, xs, rfl⟩
          · cases h'
        obtain ⟨hcl, xs, hm⟩ := hbody
        have key : ∀ (l : List Field) (off : Nat) (xs : List (DataW H × List MemPlace)), laysT P off l = some (P.cellsOf t) → (∀ f, f ∈ l → S.contains f.type = true) →
            (l.mapM fun f => DataW.trod enc P w 0 spare true k f.type ((cs.drop f.offset).take (P.cellsOf f.type))) = some xs → ∃ ds, RepL ρ n (im0 w) (cs.drop off) ds ∧ TypedF P (l.map (·.type)) ds := by
          intro l
          induction l with
          | nil =>
            intro off xs hl _ _
            simp [laysT] at hl
            rw [List.drop_eq_nil_of_le (by omega)]
            exact ⟨[], .nil, .nil⟩
          | cons f l ihl =>
            intro off xs hl hpl hml
            simp only [laysT] at hl
            split at hl
            · rename_i hoff
              rw [List.mapM_cons] at hml
              cases htr : DataW.trod enc P w 0 spare true k f.type ((cs.drop f.offset).take (P.cellsOf f.type)) with
              | none => simp [htr] at hml
              | some x0 =>
                cases hrest : (l.mapM fun f => DataW.trod enc P w 0 spare true k f.type ((cs.drop f.offset).take (P.cellsOf f.type))) with
                | none => simp [htr, hrest] at hml
                | some xr =>
                  obtain ⟨ds, h1, h2⟩ := ih f.type _ _ htr (hpl f (by simp))
                  obtain ⟨es, h3, h4⟩ := ihl (off + P.cellsOf f.type) xr hl (fun g hg => hpl g (by simp [hg])) hrest
                  refine ⟨ds ++ es, ?_, .cons _ _ _ _ h2 h4⟩
                  have e1 : cs.drop off = (cs.drop f.offset).take (P.cellsOf f.type) ++ cs.drop (off + P.cellsOf f.type) := by
                    rw [hoff, ← List.drop_drop, List.take_append_drop]
                  rw [e1]
                  exact h1.append h3
            · cases hl
        obtain ⟨ds, h1, h2⟩ := key fs.toList 0 xs hlay hall hm
        exact ⟨ds, by simpa using h1, .struct t fs ds hu h2⟩
      case array m e =>
        simp only [Bool.and_eq_true, beq_iff_eq] at hp
        obtain ⟨hsz, hpe⟩ := hp
        have hbody : cs.length = P.cellsOf t ∧ ∃ xs, ((List.range m).mapM fun i => DataW.trod enc P w 0 spare true k e ((cs.drop (i * P.cellsOf e)).take (P.cellsOf e))) = some xs := by
          rw [trod_array_eq hu] at h'
          split at h'
          · rename_i hc
            cases hm : ((List.range m).mapM fun i => DataW.trod enc P w 0 spare true k e ((cs.drop (i * P.cellsOf e)).take (P.cellsOf e))) with
            | none => simp [hm] at h'
            | some xs => exact ⟨hc, xs, rfl⟩
          · cases h'
        obtain ⟨hcl, xs, hm⟩ := hbody
        have key : ∀ (r s : Nat) (xs : List (DataW H × List MemPlace)), s + r = m →
            ((List.range' s r).mapM fun i => DataW.trod enc P w 0 spare true k e ((cs.drop (i * P.cellsOf e)).take (P.cellsOf e))) = some xs → ∃ ds, RepL ρ n (im0 w) (cs.drop (s * P.cellsOf e)) ds ∧ TypedF P (List.replicate r e) ds := by
          intro r
          induction r with
          | zero =>
            intro s xs hs _
            rw [List.drop_eq_nil_of_le (by rw [hcl, hsz]; have : s = m := by omega
                                           subst this; exact Nat.le_refl _)]
            exact ⟨[], .nil, .nil⟩
          | succ r ihr =>
            intro s xs hs hml
            rw [List.range'_succ, List.mapM_cons] at hml
            cases htr : DataW.trod enc P w 0 spare true k e ((cs.drop (s * P.cellsOf e)).take (P.cellsOf e)) with
            | none => simp [htr] at hml
            | some x0 =>
              cases hrest : ((List.range' (s + 1) r).mapM fun i => DataW.trod enc P w 0 spare true k e ((cs.drop (i * P.cellsOf e)).take (P.cellsOf e))) with
              | none => simp [htr, hrest] at hml
              | some xr =>
                obtain ⟨ds, h1, h2⟩ := ih e _ _ htr hpe
                obtain ⟨es, h3, h4⟩ := ihr (s + 1) xr (by omega) hrest
                refine ⟨ds ++ es, ?_, .cons _ _ _ _ h2 h4⟩
                have e1 : cs.drop (s * P.cellsOf e) = (cs.drop (s * P.cellsOf e)).take (P.cellsOf e) ++ cs.drop ((s + 1) * P.cellsOf e) := by
                  rw [Nat.add_mul, Nat.one_mul, ← List.drop_drop, List.take_append_drop]
                rw [e1]
                exact h1.append h3
        rw [List.range_eq_range'] at hm
        obtain ⟨ds, h1, h2⟩ := key m 0 xs (by omega) hm
        exact ⟨ds, by simpa using h1, .array t e m ds hu h2⟩
end
end Vm
end
/- A statement out of what the interpreter comes to. -/
section
set_option linter.unusedVariables false
set_option linter.unusedSimpArgs false
namespace Vm
open Go Go.RowKit

section
variable {H : Type} {enc : TypeId × Value → H} {P : Program} {w : World}
theorem value_typed {S : List TypeId} (hS : plainS P S = true) {t : TypeId} {v : Value} {d : DataW H} {ps : List MemPlace} {ρ : Rho} {n : Nat} (h : DataW.Trod enc P w 0 (fun _ => true) true t v d ps) (hp : S.contains t = true) {base : Nat} (hv : Value.okWide P w .any base t v) :
    ∃ x, Rep ρ n (im0 w) v x ∧ ((aggT P t = true ∧ ∃ cs, x = .agg cs ∧ Typed P t cs) ∨ (aggT P t = false ∧ Typed P t [x])) := by
  obtain ⟨fuel, hf⟩ := h
  obtain ⟨ds, hds, hty⟩ := trod_typed (ρ := ρ) (n := n) hS fuel t _ _ hf hp
  cases ha : aggT P t with
  | true =>
    have : ∃ cs, v = .agg cs := by
      unfold Value.okWide at hv
      unfold aggT isAggT at ha
      cases hu : P.underlying t with
      | none => simp [hu] at ha
      | some td =>
        cases td <;> simp [hu] at ha
        all_goals (simp only [hu] at hv; obtain ⟨cs, rfl, _⟩ := hv; exact ⟨cs, rfl⟩)
    obtain ⟨⟨cs⟩, rfl⟩ := this
    exact ⟨.agg ds, .agg cs ds (by simpa [Value.cells] using hds), .inl ⟨rfl, ds, rfl, hty⟩⟩
  | false =>
    obtain ⟨x, rfl, hna⟩ := typed_one hty ha
    have hcell : v.cells.toList = [v] := by
      have : ∀ cs, v ≠ .agg cs := by
        rintro cs rfl
        have hp1 := plain1_of hS hp
        unfold plain1 at hp1
        unfold Value.okWide at hv
        cases hu : P.underlying t with
        | none => simp [hu] at hp1
        | some td =>
          cases td <;> simp [hu] at hp1 <;> simp only [hu] at hv <;> first
            | (simp [Cell.okWide, Cell.ok, hu] at hv; done)
            | (simp [aggT, isAggT, hu] at ha; done)
      cases v <;> first | rfl | exact (this _ rfl).elim
    rw [hcell] at hds
    cases hds with
    | cons _ _ _ _ _ hr _ => exact ⟨x, hr, .inr ⟨rfl, hty⟩⟩
theorem args_typed {S : List TypeId} (hS : plainS P S = true) {ρ : Rho} {n : Nat} : ∀ {ts : List TypeId} {vs : List Value} {ds : List (DataW H)} {ps : List MemPlace}, DataW.TrodAll enc P w 0 (fun _ => true) true ts vs ds ps →
    (∀ t ∈ ts, S.contains t = true) → (∀ (j : Nat) t v, ts[j]? = some t → vs[j]? = some v → ∃ base, Value.okWide P w .any base t v) → ∃ Ds, RepA ρ n (im0 w) vs Ds ∧ TypedA P ts Ds
  | [], [], [], ps, h, _, _ => ⟨[], .nil, .nil⟩
  | t :: ts, v :: vs, d :: ds, ps, h, hp, hv => by
    obtain ⟨p, q, h1, h2, _⟩ := h
    obtain ⟨base, hv0⟩ := hv 0 t v rfl rfl
    obtain ⟨x, hx, hc⟩ := value_typed hS (ρ := ρ) (n := n) h1 (hp t (by simp)) hv0
    obtain ⟨Ds, g1, g2⟩ := args_typed hS (ρ := ρ) (n := n) h2 (fun t ht => hp t (by simp [ht])) (fun j t v a b => hv (j + 1) t v (by simpa using a) (by simpa using b))
    refine ⟨x :: Ds, .cons _ _ _ _ hx g1, ?_⟩
    rcases hc with ⟨ha, cs, rfl, hty⟩ | ⟨ha, hty⟩
    · exact .agg t ts cs Ds ha hty g2
    · exact .one t ts x Ds ha hty g2
  | [], _ :: _, _, _, h, _, _ => by simp [DataW.TrodAll] at h
  | [], [], _ :: _, _, h, _, _ => by simp [DataW.TrodAll] at h
  | _ :: _, [], _, _, h, _, _ => by simp [DataW.TrodAll] at h
  | _ :: _, _ :: _, [], _, h, _, _ => by simp [DataW.TrodAll] at h
theorem trodAll_stays {W W' : World} (hl : laidOutB P = true) (hb : Below W.heap.size W W') : ∀ {ts : List TypeId} {vs : List Value} {ds : List (DataW H)} {ps : List MemPlace}, DataW.TrodAll enc P W 0 (fun _ => true) true ts vs ds ps →
    (∀ t ∈ ts, P.readableRec t = true ∧ t < P.types.size) → (∀ x ∈ ps, x.block < W.heap.size) → DataW.TrodAll enc P W' 0 (fun b => decide (b < W.heap.size)) true ts vs ds ps
  | [], [], [], ps, h, _, _ => h
  | t :: ts, v :: vs, d :: ds, ps, h, ht, hlt => by
    obtain ⟨p, q, h1, h2, rfl⟩ := h
    exact ⟨p, q, Below.trod hl (ht t (by simp)).1 (ht t (by simp)).2 h1 hb (fun x hx => hlt x (by simp [hx])), trodAll_stays hl hb h2 (fun t h => ht t (by simp [h])) (fun x hx => hlt x (by simp [hx])), rfl⟩
  | [], _ :: _, _, _, h, _, _ => by simp [DataW.TrodAll] at h
  | [], [], _ :: _, _, h, _, _ => by simp [DataW.TrodAll] at h
  | _ :: _, [], _, _, h, _, _ => by simp [DataW.TrodAll] at h
  | _ :: _, _ :: _, [], _, h, _, _ => by simp [DataW.TrodAll] at h
theorem Tr.below {ρ ρ' : Rho} {H' : Heap} {W W' : World} (h : Tr ρ [] W ρ' H' W') : Below W.heap.size W W' :=
  ⟨h.os, h.tape, h.output, h.size, fun k hk => h.keep k hk (fun r hr => by simp at hr)⟩
end

/-- the contract that a statement's row asks -/
theorem law_contract {C : Checked} {f : FuncId} {fn : Func} {s : ChangeSpec} {H : Type} {enc : TypeId × Value → H} {A : Ann} {S : List TypeId} {tb : TypeId} (hvars : s.vars = []) (hl : laidOutB C.prog = true)
    (hts : ∀ t ∈ fn.params.toList, C.prog.readableRec t = true ∧ t < C.prog.types.size) (hS : plainS C.prog S = true) (hpl : (fn.params.toList.all fun t => S.contains t) = true)
    (hbod : bodied C.prog f = true) (hres : fn.resultTypes = #[tb]) (htb : C.prog.underlying tb = some .bool)
    (hs : ∀ ds : List (DataW H), ds.length = fn.params.size → (s.fn H ds).results = [.lit (.bool true)] ∧ (s.fn H ds).args = ds ∧ (s.fn H ds).vars = [])
    (hrun : ∀ Ds, TypedA C.prog fn.params.toList Ds → ∃ k H', runF C.prog A k f Ds [] = some (.ok (.bool true) H')) :
    ∀ (W : World) (base : Nat) (args : Array Value) (ds gs : List (DataW H)) (before : List MemPlace),
      (∀ (j : Nat) t v, fn.params[j]? = some t → args[j]? = some v → Value.okWide C.prog W .any base t v) →
      DataW.Whole enc C.prog fn.params.toList s.vars false W args.toList ds gs before → @PrimOk ⟨im0 W⟩ C.prog A →
      Calls C.prog f args W fun e W' => ∃ v, e = .returned v ∧ s.post enc C.prog fn false true false false W args v W' := by
  intro W base args ds gs before hval hW hA
  letI : Base := ⟨im0 W⟩
  have hW' := hW
  obtain ⟨p, q, hAll, hV, hps, hfz, hnd⟩ := hW
  rw [hvars] at hV
  have hgq : gs = [] ∧ q = [] := by
    cases gs with
    | nil => exact ⟨rfl, by simpa [DataW.TrodVars] using hV⟩
    | cons g gs => simp [DataW.TrodVars] at hV
  obtain ⟨rfl, rfl⟩ := hgq
  obtain ⟨Ds, hrep, hty⟩ := args_typed hS (ρ := fun _ => default) (n := 0) hAll (fun t ht => List.all_eq_true.1 hpl t ht) (fun j t v a b => ⟨base, hval j t v (by simpa using a) (by simpa using b)⟩)
  obtain ⟨k, H', hk⟩ := hrun Ds hty
  have hc := (runF_ok C.mixed hA k f Ds [] _ hk (fun _ => default) (im0 W) W args.toList (rel0 W _ fun _ _ _ h => h) hrep).calls hbod
  refine hc.mono fun e W' hout => ?_
  cases hout with
  | ok ρ' im' _ _ v _ hm hv =>
    have hvb := hv.bool_inv
    subst hvb
    have hb : Below W.heap.size W W' := hm.tr.below
    have hlen : ds.length = fn.params.size := by
      have : ∀ {ts : List TypeId} {vs : List Value} {ds : List (DataW H)} {ps : List MemPlace}, DataW.TrodAll enc C.prog W 0 (fun _ => true) true ts vs ds ps → ds.length = ts.length := by
        intro ts
        induction ts with
        | nil => intro vs ds ps h; cases vs <;> cases ds <;> simp [DataW.TrodAll] at h ⊢
        | cons t ts ih =>
          intro vs ds ps h
          cases vs <;> cases ds <;> simp [DataW.TrodAll] at h ⊢
          obtain ⟨p, _, q, h2, _⟩ := h
          exact ih h2
      simpa using this hAll
    obtain ⟨h1, h2, h3⟩ := hs ds hlen
    refine ⟨_, rfl, ds, [], before, [], p, [], hW', ?_, ?_, ?_, ?_, fun h => by cases h⟩
    · rw [List.append_nil, h1, hres]
      refine ⟨[], [], ⟨1, ?_⟩, rfl, rfl⟩
      simp [DataW.trod, htb, Value.cells, Value.resultList]
    · rw [List.append_nil, h2]
      refine trodAll_stays hl hb hAll hts fun x hx => ?_
      have := hW'.lt x (by rw [hps]; simp [hx])
      simpa using this
    · rw [List.append_nil, h3, hvars]; rfl
    · exact hb.frame _
end Vm
end
/- What typed data are, kind by kind. -/
section
set_option linter.unusedVariables false
namespace Vm
open Go
section
variable {P : Program}
theorem typed_int {t : TypeId} {k : IntKind} {ds : List D} (hu : P.underlying t = some (.int k)) (h : Typed P t ds) : ∃ n, ds = [.int k n] ∧ (Lit.int k n).wf = true := by
  cases h with
  | bool _ b h => rw [hu] at h; cases h
  | int _ k1 n h hn => rw [hu] at h; cases h; exact ⟨n, rfl, hn⟩
  | str _ s h hs => rw [hu] at h; cases h
  | slice _ e xs h hl hx => rw [hu] at h; cases h
  | struct _ fs ds h hf => rw [hu] at h; cases h
  | array _ e n ds h hf => rw [hu] at h; cases h
theorem typed_slice {t e : TypeId} {ds : List D} (hu : P.underlying t = some (.slice e)) (h : Typed P t ds) : ∃ xs, ds = [.sl false xs] ∧ xs.length ≤ maxLen ∧ TypedE P e xs := by
  cases h with
  | bool _ b h => rw [hu] at h; cases h
  | int _ k1 n h hn => rw [hu] at h; cases h
  | str _ s h hs => rw [hu] at h; cases h
  | slice _ e xs h hl hx => rw [hu] at h; cases h; exact ⟨xs, rfl, hl, hx⟩
  | struct _ fs ds h hf => rw [hu] at h; cases h
  | array _ e n ds h hf => rw [hu] at h; cases h
theorem typed_struct {t : TypeId} {fs : Array Field} {ds : List D} (hu : P.underlying t = some (.struct fs)) (h : Typed P t ds) : TypedF P (fs.toList.map (·.type)) ds := by
  cases h with
  | bool _ b h => rw [hu] at h; cases h
  | int _ k1 n h hn => rw [hu] at h; cases h
  | str _ s h hs => rw [hu] at h; cases h
  | slice _ e xs h hl hx => rw [hu] at h; cases h
  | struct _ fs ds h hf => rw [hu] at h; cases h; exact hf
  | array _ e n ds h hf => rw [hu] at h; cases h
def fieldTs (P : Program) (t : TypeId) : Option (List TypeId) :=
  match P.underlying t with
  | some (.struct fs) => some (fs.toList.map (·.type))
  | _ => none
theorem typed_fields {t : TypeId} {ts : List TypeId} {ds : List D} (hu : fieldTs P t = some ts) (h : Typed P t ds) : TypedF P ts ds := by
  unfold fieldTs at hu
  split at hu
  · rename_i fs hs
    cases hu
    exact typed_struct hs h
  · cases hu
theorem typedF_int {t : TypeId} {k : IntKind} {ts : List TypeId} {ds : List D} (hu : P.underlying t = some (.int k)) (h : TypedF P (t :: ts) ds) : ∃ n es, ds = .int k n :: es ∧ TypedF P ts es := by
  cases h with
  | cons _ _ ds es h hr =>
    obtain ⟨n, rfl, _⟩ := typed_int hu h
    exact ⟨n, es, rfl, hr⟩
theorem typedF_nil {ds : List D} (h : TypedF P [] ds) : ds = [] := by cases h; rfl
theorem typedE_agg {e : TypeId} {xs : List D} (ha : aggT P e = true) (h : TypedE P e xs) {α : Type} (f : α → D) (hf : ∀ cs, Typed P e cs → ∃ a, D.agg cs = f a) : ∃ l : List α, xs = l.map f := by
  induction xs with
  | nil => exact ⟨[], rfl⟩
  | cons x xs ih =>
    cases h with
    | agg _ cs _ ha' h hr =>
      obtain ⟨l, hl⟩ := ih hr
      obtain ⟨a, hb⟩ := hf cs h
      exact ⟨a :: l, by rw [List.map_cons, ← hl, hb]⟩
    | one _ _ _ ha' h hr => rw [ha] at ha'; cases ha'
theorem typedA_one {t : TypeId} {ts : List TypeId} {ds : List D} (ha : aggT P t = false) (h : TypedA P (t :: ts) ds) : ∃ d r, ds = d :: r ∧ Typed P t [d] ∧ TypedA P ts r := by
  cases h with
  | agg _ _ cs _ ha' h hr => rw [ha] at ha'; cases ha'
  | one _ _ d ds ha' h hr => exact ⟨d, ds, rfl, h, hr⟩
theorem typedA_nil {ds : List D} (h : TypedA P [] ds) : ds = [] := by cases h; rfl
end
end Vm
end
/- Plain arguments. -/
section
set_option maxHeartbeats 4000000
set_option linter.unusedVariables false
set_option linter.unusedSimpArgs false
-- use:
namespace Go.Proofs.W
open Go Vm Go.Proofs.Zs14
theorem strip1 {a : D} (h : strip a = some a) : stripL [a] = some [a] := by simp [stripL, h]
theorem strip2 {a b : D} (h : strip a = some a) (k : strip b = some b) : stripL [a, b] = some [a, b] := by simp [stripL, h, k]
end Go.Proofs.W
end
/- Calls that wait, and what comes back. -/
section
set_option linter.unusedVariables false
set_option linter.unusedSimpArgs false
namespace Vm
open Go
section
variable {P : Program} {A : Ann} {N : Nat}
def WpS (P : Program) (A : Ann) (N : Nat) (c : Code) (e : Env) (H : Heap) (m : Md) (Q : Ex → Env → Heap → Md → Prop) : Prop :=
  ∃ k s m', runS P A N (runC P A (runF P A k) k N) c e H m = some (s, m') ∧ Q s.ex s.e s.H m'
def noRec : Code → Bool
  | .seq a b => noRec a && noRec b
  | .cond _ a b => noRec a && noRec b
  | .region _ ops draw => !(decide (draw = false) && ops.toList.any fun o => recoverC o.op)
  | _ => true
theorem runS_le {k k' : Nat} (h : k ≤ k') {c : Code} {e : Env} {H : Heap} {m : Md} {x : St × Md} (hr : runS P A N (runC P A (runF P A k) k N) c e H m = some x) : runS P A N (runC P A (runF P A k') k' N) c e H m = some x :=
  runS_mono (fun c e H s hs => runRun_mono h N c e H s hs) hr
theorem runS_calm {k : Nat} {m : Md} : ∀ {c : Code} {e : Env} {H : Heap} {s : St}, noRec c = true → runC P A (runF P A k) k N c e H = some s → runS P A N (runC P A (runF P A k) k N) c e H m = some (s, m) := by
  intro c
  induction c with
  | seq a b iha ihb =>
    intro e H s hc h
    simp only [noRec, Bool.and_eq_true] at hc
    simp only [runC] at h
    simp only [runS]
    cases ha : runC P A (runF P A k) k N a e H with
    | none => rw [ha] at h; cases h
    | some s1 =>
      rw [iha hc.1 ha]
      rw [ha] at h
      obtain ⟨x, e1, H1⟩ := s1
      cases x with
      | norm => simp only [Option.bind_some] at h ⊢; exact ihb hc.2 h
      | _ => simp only [Option.bind_some] at h ⊢; first | (cases h; rfl) | (simp at h; subst h; rfl)
  | cond o a b iha ihb =>
    intro e H s hc h
    simp only [noRec, Bool.and_eq_true] at hc
    simp only [runC] at h
    simp only [runS]
    split at h
    · exact iha hc.1 h
    · exact ihb hc.2 h
    · cases h
  | region id ops draw =>
    intro e H s hc h
    simp only [noRec, Bool.not_eq_true', Bool.and_eq_false_iff, decide_eq_false_iff_not] at hc
    simp only [runS]
    rw [if_neg (fun g => hc.elim (fun hc => hc g.1) (fun hc => absurd (hc.symm.trans g.2) (by decide))), h]
    rfl
  | _ => intro e H s hc h; simp only [runS]; rw [h]; rfl
theorem wpS_calm {c : Code} {e : Env} {H : Heap} {m : Md} {Q : Ex → Env → Heap → Md → Prop} (hc : noRec c = true) (h : WpB P A N c e H (fun x e H => Q x e H m)) : WpS P A N c e H m Q := by
  unfold WpB at h
  obtain ⟨k, s, h1, h2⟩ := h
  exact ⟨k, s, m, runS_calm hc h1, h2⟩
theorem wpS_seq {a b : Code} {e : Env} {H : Heap} {m : Md} {Q : Ex → Env → Heap → Md → Prop} (h : WpS P A N a e H m (fun x e H m => x = .norm ∧ WpS P A N b e H m Q)) : WpS P A N (.seq a b) e H m Q := by
  obtain ⟨k, ⟨x, e1, H1⟩, m1, h1, hx, k2, s2, m2, h2, h3⟩ := h
  simp only at hx h2
  subst hx
  refine ⟨max k k2, s2, m2, ?_, h3⟩
  simp only [runS, runS_le (Nat.le_max_left k k2) h1, Option.bind_some]
  exact runS_le (Nat.le_max_right k k2) h2
theorem wpS_cond {o : Operand} {a b : Code} {t : Bool} {e : Env} {H : Heap} {m : Md} {Q : Ex → Env → Heap → Md → Prop} (hc : evalO e o = some (.bool t)) (ht : t = true → WpS P A N a e H m Q) (hf : t = false → WpS P A N b e H m Q) : WpS P A N (.cond o a b) e H m Q := by
  cases t with
  | true => obtain ⟨k, s, m', h1, h2⟩ := ht rfl; exact ⟨k, s, m', by simp only [runS, hc]; exact h1, h2⟩
  | false => obtain ⟨k, s, m', h1, h2⟩ := hf rfl; exact ⟨k, s, m', by simp only [runS, hc]; exact h1, h2⟩
/-- what came back of a panic, kept in a variable -/
theorem wpS_rec {id t u : Nat} {o1 o2 : Oper} {e : Env} {H : Heap} {m : Md} {Q : Ex → Env → Heap → Md → Prop} (h1 : recoverC o1.op = true) (g1 : o1.guard = none) (d1 : o1.dst = some t) (h2 : o2.op = .assign (.tmp t)) (g2 : o2.guard = none) (d2 : o2.dst = some u)
    (ht : dstOk N (some t) = true) (hu : dstOk N (some u) = true) (hq : Q .norm (putO (putO e (some t) (recD m).1) (some u) (recD m).1) H (recD m).2) : WpS P A N (.region id #[o1, o2] false) e H m Q := by
  refine ⟨0, ⟨.norm, putO (putO e (some t) (recD m).1) (some u) (recD m).1, H⟩, (recD m).2, ?_, hq⟩
  have r2 : recoverC o2.op = false := by rw [h2]; rfl
  simp only [runS]
  rw [if_pos (by simp [h1])]
  have w1 : wantD #[o1, o2] e o1 = some true := by simp [wantD, g1]
  have w2 : ∀ e', wantD #[o1, o2] e' o2 = some true := fun e' => by simp [wantD, g2]
  have hs : stepOp P A (fun _ _ _ => none) o2.op (putO e (some t) (recD m).1) H = some (.ok (recD m).1 H) := by
    rw [h2]
    simp [stepOp, evalO, putO, put]
    try rfl
  have p2 : plainO o2.op = true := by rw [h2]; rfl
  simp only [runOpsS, d1, d2, ht, hu, Bool.true_eq_false, if_false, w1, w2, h1, r2, if_true, p2, hs, Bool.false_eq_true, Option.map_some]
/-- what is left of a function: its waiting calls -/
def LvQ (P : Program) (A : Ann) (rs : List ResultVar) (K Kp : D → Heap → Prop) (e : Env) (l : List Dfr) (m : Md) (H : Heap) : Prop :=
  ∃ k r, leaveD P A (fun N => runC P A (runF P A k) k N) rs e l m H = some r ∧ (match r with | .ok d H' => K d H' | .pan d H' => Kp d H')
variable {rs : List ResultVar} {K Kp : D → Heap → Prop} {e : Env} {H : Heap} {l : List Dfr}
theorem leaveQ_ret (hd : e.df = some l) (h : LvQ P A rs K Kp e l .ret H) : LeaveQ P A rs K Kp .ret e H := by
  obtain ⟨k, r, h1, h2⟩ := h
  exact ⟨l, k, r, hd, h1, h2⟩
theorem leaveQ_norm (hd : e.df = some l) (h : LvQ P A rs K Kp e l .ret H) : LeaveQ P A rs K Kp .norm e H := by
  obtain ⟨k, r, h1, h2⟩ := h
  exact ⟨l, k, r, hd, h1, h2⟩
theorem leaveQ_pan {d : D} (hd : e.df = some l) (h : LvQ P A rs K Kp e l (.pan d) H) : LeaveQ P A rs K Kp (.pan d) e H := by
  obtain ⟨k, r, h1, h2⟩ := h
  exact ⟨l, k, r, hd, h1, h2⟩
theorem lvQ_ret {ds : List D} (hr : resD P e H rs = some ds) (h : K (oneD ds) H) : LvQ P A rs K Kp e [] .ret H :=
  ⟨0, .ok (oneD ds) H, by simp [leaveD, hr], h⟩
theorem lvQ_pan {d : D} (h : Kp d H) : LvQ P A rs K Kp e [] (.pan d) H := ⟨0, .pan d H, by simp [leaveD], h⟩
theorem lvQ_call {f : FuncId} {fn : Func} {c : Code} {n : Nat} {args : List D} {m : Md} (hf : P.funcs[f]? = some fn) (hb : fn.body = some c) (hn : (fn.name == "runtime.NumGoroutine") = false) (hN : fn.ntmps = n) (hr : fn.results.toList = []) (ha : Nat.ble args.length n = true)
    (h : WpS P A n c (ofArgs args) H m (fun x e2 H2 m2 => (x = .norm ∨ x = .ret) ∧ e2.df = some [] ∧ LvQ P A rs K Kp e l m2.settle H2)) : LvQ P A rs K Kp e (.call f args :: l) m H := by
  subst hN
  obtain ⟨k, ⟨x, e2, H2⟩, m2, h1, hx, hdf, k2, r, h2, h3⟩ := h
  have ha' := Nat.le_of_ble_eq_true ha
  have hcond : ¬ ((fn.name == "runtime.NumGoroutine" || decide (args.length > fn.ntmps)) = true) := by simp [hn]; omega
  refine ⟨max k k2, r, ?_, h3⟩
  have q1 := runS_le (Nat.le_max_left k k2) h1
  have q2 := leaveD_mono (fun N c e H s hs => runRun_mono (P := P) (A := A) (Nat.le_max_right k k2) N c e H s hs) h2
  have hl : lastD P A (fun N => runC P A (runF P A (max k k2)) (max k k2) N) f args m H = some (m2.settle, H2) := by
    simp only at hx hdf
    have hno : noDf e2.df = true := by rw [hdf]; rfl
    simp only [lastD, hf, hb, if_neg hcond]
    rw [q1]
    simp only [Option.bind_some]
    rcases hx with rfl | rfl <;> simp [hno, hr, resD]
  have : leaveD P A (fun N => runC P A (runF P A (max k k2)) (max k k2) N) rs e (.call f args :: l) m H = (lastD P A (fun N => runC P A (runF P A (max k k2)) (max k k2) N) f args m H).bind fun (m, H) => leaveD P A (fun N => runC P A (runF P A (max k k2)) (max k k2) N) rs e l m H := by cases m <;> rfl
  rw [this, hl]
  exact q2
def pushF (P : Program) (e : Env) : Option (List Dfr) → Option (List D) → Option D → Option Env
  | some l, some args, some (.fn g cs) => if bodied P g then some ⟨e.f, some (.call g (args ++ cs) :: l)⟩ else none
  | _, _, _ => none
theorem pushD_eq {P : Program} {e : Env} {f : Operand} {args : Array Operand} {ts : Array TypeId} : pushD P e ⟨.value f, args, ts⟩ = pushF P e e.df (evalOs e args.toList) (evalO e f) := by
  unfold pushD
  cases h1 : e.df with
  | none => rfl
  | some l =>
    simp only [Option.bind_some]
    cases h2 : evalOs e args.toList with
    | none => rfl
    | some as1 =>
      simp only [Option.bind_some]
      cases h3 : evalO e f with
      | none => rfl
      | some d => cases d <;> rfl
theorem pushF_fn {P : Program} {e : Env} {l : List Dfr} {args cs : List D} {g : FuncId} : pushF P e (some l) (some args) (some (.fn g cs)) = if bodied P g then some ⟨e.f, some (.call g (args ++ cs) :: l)⟩ else none := rfl
attribute [go_sem] pushD_eq pushF_fn
end
end Vm
end
/- Guards that are not settled: both ways. -/
section
set_option linter.unusedVariables false
namespace Vm
open Go
section
variable {P : Program} {A : Ann} {N : Nat} {S : List (Option Nat)} {o : Oper} {rest : List Oper} {e : Env} {H : Heap} {K : Env → Heap → Prop} {Kp : D → Env → Heap → Prop}
theorem stepsB_both {b : Bool} {dc : Option Call} (h1 : b = true → stepsB (some true) dc P A N S o rest e H K Kp) (h2 : b = false → stepsB (some false) dc P A N S o rest e H K Kp) : stepsB (some b) dc P A N S o rest e H K Kp := by
  cases b
  · exact h2 rfl
  · exact h1 rfl
theorem stepsXB_both {b : Bool} {prs : List (List Nat × List Nat)} (h1 : b = true → stepsXB (some true) P A N S prs o rest e H K) (h2 : b = false → stepsXB (some false) P A N S prs o rest e H K) : stepsXB (some b) P A N S prs o rest e H K := by
  cases b
  · exact h2 rfl
  · exact h1 rfl
end
end Vm
namespace Vm
open Go
/-- how great what lies first in an object is -/
def vecO (o : Ob) (n : Nat) : Bool :=
  match o with
  | .arr (x :: _) | .fro (x :: _) => x.cells.length == n
  | _ => false
theorem vecSize_o {H : Heap} {r n : Nat} : vecSize H r n = vecO (hget H r) n := by
  unfold vecSize vecO; rfl
theorem vecO_arr {xs : List D} {n : Nat} (h : xs ≠ []) (hs : headSize n xs = true) : vecO (.arr xs) n = true := by
  cases xs with
  | nil => exact absurd rfl h
  | cons x l => exact hs
end Vm
end
/- Loops by a measure that the invariant names; how many are not in a table. -/
section
set_option linter.unusedVariables false
namespace Vm
open Go
theorem wpB_loopM {P : Program} {A : Ann} {N : Nat} {e : Env} {H : Heap} {Q : Ex → Env → Heap → Prop} {b : Code} (I : Nat → Env → Heap → Prop) (m0 : Nat) (h0 : I m0 e H)
    (hstep : ∀ m e H, I m e H → ∀ R : Env → Heap → Prop, (∀ m' e' H', I m' e' H' → m' < m → R e' H') → WpB P A N b e H (SeqQ R Q)) : WpB P A N (.loop b) e H Q := by
  have hf : ∀ (e : Env) (H : Heap), ∃ f : Nat, (∃ m, I m e H) → (I f e H ∧ ∀ m, I m e H → f ≤ m) := by
    intro e H
    by_cases h : ∃ m, I m e H
    · obtain ⟨m, hm⟩ := h
      induction m using Nat.strongRecOn with
      | _ m ih =>
        by_cases hl : ∃ m', m' < m ∧ I m' e H
        · obtain ⟨m', h1, h2⟩ := hl
          exact ih m' h1 h2
        · exact ⟨m, fun _ => ⟨hm, fun m' h' => Nat.le_of_not_lt fun hlt => hl ⟨m', hlt, h'⟩⟩⟩
    · exact ⟨0, fun h' => absurd h' h⟩
  let μ : Env → Heap → Nat := fun e H => Classical.choose (hf e H)
  have hμ : ∀ e H, (∃ m, I m e H) → (I (μ e H) e H ∧ ∀ m, I m e H → μ e H ≤ m) := fun e H => Classical.choose_spec (hf e H)
  refine wpB_loop (fun e H => ∃ m, I m e H) μ ⟨m0, h0⟩ fun e H hI R hR => ?_
  have h1 := hμ e H hI
  refine hstep (μ e H) e H h1.1 R fun m' e' H' h2 h3 => hR e' H' ⟨m', h2⟩ ?_
  exact Nat.lt_of_le_of_lt ((hμ e' H' ⟨m', h2⟩).2 m' h2) h3
/-- how many below a bound aren't in a table -/
def cntF (q : Nat → Bool) : Nat → Nat
  | 0 => 0
  | k + 1 => cntF q k + if q k then 0 else 1
theorem cntF_le {q q' : Nat → Bool} : ∀ {k : Nat}, (∀ s, s < k → q s = true → q' s = true) → cntF q' k ≤ cntF q k
  | 0, _ => Nat.le_refl _
  | k + 1, h => by
    have h1 := cntF_le (k := k) fun s hs => h s (by omega)
    have h2 := h k (by omega)
    simp only [cntF]
    cases hq : q k
    · cases q' k <;> simp <;> omega
    · rw [h2 hq]; simp; exact h1
theorem cntF_lt {q q' : Nat → Bool} : ∀ {k : Nat}, (∀ s, s < k → q s = true → q' s = true) → (∃ s, s < k ∧ q s = false ∧ q' s = true) → cntF q' k < cntF q k
  | 0, _, ⟨s, h, _⟩ => by omega
  | k + 1, h, ⟨s, h1, h2, h3⟩ => by
    have h4 := cntF_le (k := k) fun s hs => h s (by omega)
    simp only [cntF]
    by_cases e : s = k
    · subst e
      rw [h2, h3]; simp; omega
    · have h5 := cntF_lt (k := k) (fun s hs => h s (by omega)) ⟨s, by omega, h2, h3⟩
      have h6 := h k (by omega)
      cases hq : q k
      · cases q' k <;> simp <;> omega
      · rw [h6 hq]; simp; exact h5
/-- plain lists, told one by one -/
def stripS (l : List D) : Option (List D) := stripL l
def consO (d : Option D) (l : Option (List D)) : Option (List D) := d.bind fun d => l.map (d :: ·)
theorem consO_some {d : D} {l : List D} : consO (some d) (some l) = some (d :: l) := rfl
theorem stripS_nil : stripS [] = some [] := rfl
theorem stripS_cons {d : D} {l : List D} : stripS (d :: l) = consO (strip d) (stripS l) := by
  unfold stripS consO
  rw [stripL]
def fzM (b : Prop) [Decidable b] (ys : Option (List D)) (H : Heap) : Option R := fzN b ys H
theorem fzN_S {b : Prop} [Decidable b] {xs : List D} {H : Heap} : fzN b (stripL xs) H = fzM b (stripS xs) H := rfl
theorem fzM_true {ys : List D} {H : Heap} : fzM True (some ys) H = some (.ok (.sl false ys) H) := rfl
theorem fzM_eq {n : Nat} {ys : List D} {H : Heap} : fzM (n = n) (some ys) H = some (.ok (.sl false ys) H) := by simp [fzM, fzN]
theorem strip_intR {k : IntKind} {n : Int} : strip (.int k n) = some (.int k n) := rfl
theorem strip_boolR {b : Bool} : strip (.bool b) = some (.bool b) := rfl
theorem strip_strR {s : List UInt8} : strip (.str s) = some (.str s) := rfl
attribute [go_sem] consO_some stripS_nil stripS_cons fzN_S fzM_true fzM_eq strip_intR strip_boolR strip_strR
/-- what the driver closes -/
theorem gs {p : Prop} (h : p := by simp (maxSteps := 1000000) (dsimp := false) (disch := omega) only [go_sem, simprocAttr, *]) : p := h

section
variable {P : Program} {A : Ann} {N : Nat} {e : Env} {H : Heap} {Q : Ex → Env → Heap → Prop}
theorem wz1 {a b : Code} (h : WpB P A N a e H (SeqQ (fun e H => WpB P A N b e H Q) Q)) : WpB P A N (.seq a b) e H Q := wpB_seq h
theorem wz2 {id : Nat} {l : List Oper} (h : vOpsB P A N (l.map (·.dst)) l e H (fun e H => Q .norm e H) (fun d e H => Q (.pan d) e H)) : WpB P A N (.region id l.toArray false) e H Q := wpB_regionL rfl h
theorem wz3 {id : Nat} {b : Code} (h : WpB P A N b e H (BlkQ id (fun e H => Q .norm e H) Q)) : WpB P A N (.block id b) e H Q := wpB_block h
theorem wz4 (h : Q .norm e H) : WpB P A N .skip e H Q := wpB_skip h
theorem wz5 {id : Nat} (h : Q (.exit id) e H) : WpB P A N (.exit id) e H Q := wpB_exit h
theorem wz6 (h : Q .ret e H) : WpB P A N .ret e H Q := wpB_ret h
theorem wz7 {c : Operand} {x y : Code} {b : Bool} (ht : b = true → WpB P A N x e H Q) (hf : b = false → WpB P A N y e H Q) (hc : evalO e c = some (.bool b) := by simp -dsimp (maxSteps:=999999) (disch:=omega) only[go_sem,simprocAttr, *]; exact rfl) : WpB P A N (.cond c x y) e H Q := wpB_cond hc ht hf
end
section
variable {P : Program} {A : Ann} {N : Nat} {S : List (Option Nat)} {o : Oper} {rest : List Oper} {e : Env} {H : Heap}
theorem wz8 {K : Env → Heap → Prop} {Kp : D → Env → Heap → Prop} {b : Bool} {dc : Option Call} (h1 : b = true → stepsB (some true) dc P A N S o rest e H K Kp) (h2 : b = false → stepsB (some false) dc P A N S o rest e H K Kp) : stepsB (some b) dc P A N S o rest e H K Kp := stepsB_both h1 h2
theorem wz9 {K : Env → Heap → Prop} {b : Bool} {prs : List (List Nat × List Nat)} (h1 : b = true → stepsXB (some true) P A N S prs o rest e H K) (h2 : b = false → stepsXB (some false) P A N S prs o rest e H K) : stepsXB (some b) P A N S prs o rest e H K := stepsXB_both h1 h2
end
theorem vqs {p q : Prop} (h : p) (e : p = q := by first | (simp -dsimp (maxSteps:=999999) (disch:=omega) only[go_sem,simprocAttr,decide_eq_true_eq,decide_eq_false_iff_not,Bool.not_eq_true,Bool.not_eq_false,Bool.not_eq_true',Bool.not_eq_false',Int.not_lt,Int.not_le,bne_iff_ne,bne_eq_false_iff_eq,beq_iff_eq,beq_eq_false_iff_ne,ne_eq,Int.ofNat_inj,Int.natCast_inj]; done) | (simp -dsimp (maxSteps:=999999) (disch:=omega) only[go_sem,simprocAttr,decide_eq_true_eq,decide_eq_false_iff_not,Bool.not_eq_true,Bool.not_eq_false,Bool.not_eq_true',Bool.not_eq_false',Int.not_lt,Int.not_le,bne_iff_ne,bne_eq_false_iff_eq,beq_iff_eq,beq_eq_false_iff_ne,ne_eq,Int.ofNat_inj,Int.natCast_inj]; exact rfl) | exact rfl) : q := e ▸ h
end Vm
end
/- What is shown of the interpreter's run of a function that writes nothing holds of the function's calls. -/
section
set_option linter.unusedVariables false
namespace Vm
open Go
theorem calls_of_ev [Base] {P : Program} {A : Ann} {f : FuncId} {args : List D} {H : Heap} {d : D} (hmo : P.follows .mixedOrders = true) (hA : PrimOk P A) (hb : bodied P f = true) (h : EvF P A f args H (fun d' H' => d' = d ∧ H' = H) (fun _ _ => False))
    {ρ : Rho} {im : Im} {w : World} {vs : List Value} (hR : Rel ρ im H w) (hvs : RepA ρ H.length im vs args) : Calls P f ⟨vs⟩ w (OutR ρ im H w (.ok d H)) := by
  obtain ⟨k, res, h1, h2⟩ := h
  cases res with
  | pan d' H' => exact h2.elim
  | ok d' H' =>
    obtain ⟨rfl, rfl⟩ := h2
    exact (runF_ok hmo hA k f args _ _ h1 ρ im w vs hR hvs).calls hb
/-- what is shown of a function's run with memory of its own holds of its calls with plain arguments -/
theorem calls_of_pure [Base] {P : Program} {A : Ann} {f : FuncId} {args : List D} {H : Heap} {d : D} (hmo : P.follows .mixedOrders = true) (hA : PrimOk P A) (hb : bodied P f = true) (h : PureF P A f args d) (hst : stripL args = some args)
    {ρ : Rho} {im : Im} {w : World} {vs : List Value} (hR : Rel ρ im H w) (hvs : RepA ρ H.length im vs args) : Calls P f ⟨vs⟩ w (OutR ρ im H w (.ok d H)) := by
  obtain ⟨k, res, h1, h2⟩ := h
  cases res with
  | pan d' H' => exact h2.elim
  | ok d' H' =>
    have := OutR.of_pure (runF_ok hmo hA k) hb hR (Mv.refl hR) hvs hst h1 h2
    rwa [ite_self] at this
mutual
/-- the same plain data? -/
def eqPl : D → D → Bool
  | .bool a, .bool b => a == b
  | .int k a, .int k' b => decide (k = k') && a == b
  | .str a, .str b => a == b
  | .nilp, .nilp | .nilm, .nilm | .niln, .niln | .nili, .nili => true
  | .sl f a, .sl g b => f == g && eqPlL a b
  | .agg a, .agg b => eqPlL a b
  | .tup a, .tup b => eqPlL a b
  | _, _ => false
def eqPlL : List D → List D → Bool
  | [], [] => true
  | x :: r, y :: s => eqPl x y && eqPlL r s
  | _, _ => false
end
mutual
theorem eqPl_eq : ∀ {a b : D}, eqPl a b = true → a = b
  | .bool a, b, h => by cases b <;> simp_all [eqPl]
  | .int k a, b, h => by cases b <;> simp_all [eqPl]
  | .str a, b, h => by cases b <;> simp_all [eqPl]
  | .nilp, b, h => by cases b <;> simp_all [eqPl]
  | .nilm, b, h => by cases b <;> simp_all [eqPl]
  | .niln, b, h => by cases b <;> simp_all [eqPl]
  | .nili, b, h => by cases b <;> simp_all [eqPl]
  | .sl f a, b, h => by
    cases b <;> simp only [eqPl] at h <;> first | (cases h; done) | skip
    simp only [Bool.and_eq_true, beq_iff_eq] at h
    rw [h.1, eqPlL_eq h.2]
  | .agg a, b, h => by
    cases b <;> simp only [eqPl] at h <;> first | (cases h; done) | skip
    rw [eqPlL_eq h]
  | .tup a, b, h => by
    cases b <;> simp only [eqPl] at h <;> first | (cases h; done) | skip
    rw [eqPlL_eq h]
  | .ptr .., b, h | .ept .., b, h | .vec .., b, h | .map _, b, h | .fn .., b, h | .bfn .., b, h | .iface .., b, h | .yld _, b, h => by simp [eqPl] at h
theorem eqPlL_eq : ∀ {a b : List D}, eqPlL a b = true → a = b
  | [], b, h => by cases b <;> simp_all [eqPlL]
  | x :: r, b, h => by
    cases b with
    | nil => simp [eqPlL] at h
    | cons y s =>
      simp only [eqPlL, Bool.and_eq_true] at h
      rw [eqPl_eq h.1, eqPlL_eq h.2]
end
/-- a closed run tells this -/
def tells (x : Option R) (d : D) : Bool :=
  match x with
  | some (.ok d' H) => match outPure H d' with
    | some e => eqPl e d
    | none => false
  | _ => false
theorem tells_pure {P : Program} {A : Ann} {f : FuncId} {k : Nat} {args : List D} {d : D} (h : tells (runF P A k f args []) d = true) : PureF P A f args d := by
  unfold tells at h
  split at h
  · rename_i d' H hr
    split at h
    · rename_i e ho
      refine ⟨k, _, hr, ?_⟩
      show outPure H d' = some d
      rw [ho, eqPl_eq h]
    · cases h
  · cases h
/-- told at once, for arguments that are known -/
def onlyP (al : List D) (d : D) : List D → Heap → Option R := fun args H => (pures H args).bind fun (bs, H') => if eqPlL bs al = true then some (.ok d (if flat d then H else H')) else none
theorem only_calls [Base] {P : Program} {A : Ann} {f : FuncId} {al args : List D} {H : Heap} {d : D} {r : R} (hmo : P.follows .mixedOrders = true) (hA : PrimOk P A) (hb : bodied P f = true) (hq : primQ A f = false) (hm : A.mode f = .pure) (hp : PureF P A f al d) (h : onlyP al d args H = some r)
    {ρ : Rho} {im : Im} {w : World} {vs : List Value} (hR : Rel ρ im H w) (hvs : RepA ρ H.length im vs args) : Calls P f ⟨vs⟩ w (OutR ρ im H w r) := by
  unfold onlyP at h
  obtain ⟨⟨bs, H'⟩, h1, h2⟩ := bind_some h
  simp only at h2
  split at h2
  · rename_i he
    cases h2
    have := eqPlL_eq he
    subst this
    obtain ⟨k, res, h3, h4⟩ := hp
    cases res with
    | pan d' H' => exact h4.elim
    | ok d' Hc =>
      have hc : callD P A (runF P A k) f args H = some (.ok d (if flat d then H else H')) := by
        simp only [callD, hb, Bool.true_eq_false, if_false, (primQ_none hq).1, (primQ_none hq).2, hm, h1, Option.bind_some, h3]
        rw [if_neg (by decide), h4]
        rfl
      rcases callD_ok hA (runF_ok hmo hA k) hR hvs hc with ⟨_, hcalls⟩ | ⟨_, _, _, _, _, hx, _⟩
      · exact hcalls
      · rw [callFunc_run hb] at hx
        cases hx
  · cases h2
end Vm
end
/- Lists of numbers. -/
section
set_option maxHeartbeats 4000000
set_option linter.unusedVariables false
set_option linter.unusedSimpArgs false
namespace Go.Proofs.W
open Go Vm Go.Proofs.Zs14

def isD (l : List Int) : D := .sl false (l.map (.int .i64))
theorem strip_ints (l : List Int) : stripL (l.map (.int .i64)) = some (l.map (.int .i64)) := by
  induction l with
  | nil => rfl
  | cons q r ih => simp [stripL, ih, strip]
theorem strip_is (l : List Int) : strip (isD l) = some (isD l) := by simp [isD, strip, strip_ints]
theorem take_succ' {α : Type} {l : List α} {j : Nat} (h : j < l.length) : l.take (j + 1) = l.take j ++ [l[j]] := by rw [List.take_add_one, List.getElem?_eq_getElem h]; rfl
theorem headInts (l : List Int) : headSize 1 (l.map (D.int .i64)) = true := by cases l <;> rfl
/-- all numbers from one on -/
def allN (p : Nat → Bool) : Nat → Nat → Bool
  | _, 0 => true
  | j, m + 1 => p j && allN p (j + 1) m
theorem allN_iff {p : Nat → Bool} : ∀ {m j : Nat}, allN p j m = true ↔ ∀ i, j ≤ i → i < j + m → p i = true
  | 0, j => by simp [allN]; intro i h1 h2; omega
  | m + 1, j => by
    simp only [allN, Bool.and_eq_true, allN_iff (m := m)]
    constructor
    · rintro ⟨h0, h⟩ i h1 h2
      by_cases e : i = j
      · subst e; exact h0
      · exact h i (by omega) (by omega)
    · intro h
      exact ⟨h j (Nat.le_refl _) (by omega), fun i h1 h2 => h i (by omega) (by omega)⟩
theorem strip3 {a b c : D} (h : strip a = some a) (k : strip b = some b) (j : strip c = some c) : stripL [a, b, c] = some [a, b, c] := by simp [stripL, h, k, j]
theorem ex_at {α : Type} {l : List α} {i : Nat} (d : α) (h : i < l.length) : ∃ x, l[i]? = some x ∧ l.getD i d = x := ⟨l[i], List.getElem?_eq_getElem h, by simp [List.getD, h]⟩
/-- kept out of simp's sight -/
def Hid (p : Prop) : Prop := p
theorem allL_drop {p : Int → Bool} {l : List Int} {j : Nat} (h : j < l.length) : (l.drop j).all p = (p l[j] && (l.drop (j + 1)).all p) := by
  rw [List.drop_eq_getElem_cons h]; rfl
end Go.Proofs.W
end
/- Functions of Go's library on texts, taken as they are: by the shelf's contracts. -/
section
set_option linter.unusedVariables false
set_option linter.unusedSimpArgs false
namespace Vm
open Go Go.RowKit
variable [Base]

/-- one function that is taken as it is -/
def PrimAt (P : Program) (f : FuncId) (p : List D → Heap → Option R) : Prop :=
  ∀ (args : List D) (H : Heap) (r : R), p args H = some r → ∀ (ρ : Rho) (im : Im) (w : World) (vs : List Value), Rel ρ im H w → RepA ρ H.length im vs args → Calls P f ⟨vs⟩ w (OutR ρ im H w r)

/-- a text that is not too long for the shelf -/
def shortS (s : List UInt8) : Bool := s.length < 4294967281
def pSplit : List D → Heap → Option R
  | [.str s, .str sep], H => if shortS s = true ∧ 1 ≤ sep.length then some (.ok (.vec H.length 0 (Lib.split s sep).length) (H ++ [.arr ((Lib.split s sep).map .str)])) else none
  | _, _ => none
def pCount : List D → Heap → Option R
  | [.str s, .str sep], H => if shortS s = true ∧ 1 ≤ sep.length then some (.ok (.int .i64 (Lib.count s sep)) H) else none
  | _, _ => none
def pCut : List D → Heap → Option R
  | [.str s, .str sep], H => if shortS s = true then some (.ok (.tup [.str (Lib.cut s sep).1, .str (Lib.cut s sep).2.1, .bool (Lib.cut s sep).2.2]) H) else none
  | _, _ => none
def pCutSuffix : List D → Heap → Option R
  | [.str s, .str p], H => if shortS s = true then some (.ok (.tup [.str (Lib.trimSuffix s p), .bool (Lib.hasSuffix s p)]) H) else none
  | _, _ => none
def pIndexByte : List D → Heap → Option R
  | [.str s, .int .u8 c], H => some (.ok (.int .i64 (Lib.indexByte s c.toNat.toUInt8)) H)
  | _, _ => none

section
variable {P : Program} {ρ : Rho} {im : Im} {H : Heap} {w w' : World} {f : FuncId} {g : Nat}
omit [Base] in
theorem str_inv {v : Value} {s : List UInt8} {n : Nat} (h : Rep ρ n im v (.str s)) : ∃ b : ByteArray, v = .string b ∧ b.data.toList = s := by
  cases h with
  | str b => exact ⟨b, rfl, rfl⟩
omit [Base] in
theorem int_inv {v : Value} {k : IntKind} {m : Int} {n : Nat} (h : Rep ρ n im v (.int k m)) : v = .int k m := by
  cases h; rfl
omit [Base] in
theorem str_mk (l : List UInt8) {n : Nat} : Rep ρ n im (.string ⟨l.toArray⟩) (.str l) := by
  have := Rep.str (ρ := ρ) (n := n) (im := im) ⟨l.toArray⟩
  simpa using this
theorem OutR.same (hR : Rel ρ im H w) {v : Value} {d : D} (hv : Rep ρ H.length im v d) : OutR ρ im H w (.ok d H) (.returned v) w := .ok ρ im H w v d (Mv.refl hR) hv
theorem OutR.drewN (hR : Rel ρ im H w) {v : Value} {d : D} {n : Nat} (hv : Rep ρ H.length im v d) : OutR ρ im H w (.ok d H) (.returned v) (w.drewN n) :=
  .ok ρ im H _ v d ⟨hR.world fun _ _ => rfl, ImLe.refl _, Tr.world (fun _ _ => rfl) (Nat.le_refl _) rfl rfl rfl, fun _ _ _ h => .inl h⟩ hv
omit [Base] in
theorem size_list (s : ByteArray) : s.data.toList.length = s.size := by rw [Array.length_toList]; rfl
theorem base_cell (hR : Rel ρ im H w) {v : Value} (h : Base.B g 0 = some v) : w.cell? ⟨g, 0, none⟩ = some v := hR.imc _ _ _ (hR.base _ _ _ h)

theorem pIndexByte_at (hc : ∀ (s : ByteArray) (c : Int) (w : World), Calls P f #[.string s, .int .u8 c] w fun e w' => e = .returned (.int .i64 (Lib.indexByte s.data.toList c.toNat.toUInt8)) ∧ w' = w) : PrimAt P f pIndexByte := by
  intro args H r h ρ im w vs hR hvs
  unfold pIndexByte at h
  split at h
  · rename_i s c
    cases h
    obtain ⟨v, u, rfl, h1, h2⟩ := hvs.two
    obtain ⟨b, rfl, rfl⟩ := str_inv h1
    obtain rfl := int_inv h2
    refine (hc b c w).mono ?_
    rintro e w' ⟨rfl, rfl⟩
    exact OutR.same hR (.int _ _)
  · cases h
theorem pCutSuffix_at (hc : ∀ (s p : ByteArray) (w : World), s.size ≤ 9223372036854775807 → Calls P f #[.string s, .string p] w fun e w' => e = .returned (.tuple #[.string ⟨(Lib.trimSuffix s.data.toList p.data.toList).toArray⟩, .bool (Lib.hasSuffix s.data.toList p.data.toList)]) ∧ w' = w) : PrimAt P f pCutSuffix := by
  intro args H r h ρ im w vs hR hvs
  unfold pCutSuffix at h
  split at h
  · rename_i s c
    split at h
    · rename_i hs
      cases h
      obtain ⟨v, u, rfl, h1, h2⟩ := hvs.two
      obtain ⟨b, rfl, rfl⟩ := str_inv h1
      obtain ⟨q, rfl, rfl⟩ := str_inv h2
      have hs' : b.size < 4294967281 := by simpa [shortS, size_list] using hs
      refine (hc b q w (by omega)).mono ?_
      rintro e w' ⟨rfl, rfl⟩
      exact OutR.same hR (.tup _ _ (.cons _ _ _ _ (str_mk _) (.cons _ _ _ _ (.bool _) .nil)))
    · cases h
  · cases h
theorem pCut_at (hB : ∃ m, Base.B g 0 = some (.int .i64 m)) (hc : ∀ (s sep : ByteArray) (m : Int) (w : World), s.size < 4294967281 → w.cell? ⟨g, 0, none⟩ = some (.int .i64 m) →
    Calls P f #[.string s, .string sep] w fun e w' => e = .returned (.tuple #[.string ⟨(Lib.cut s.data.toList sep.data.toList).1.toArray⟩, .string ⟨(Lib.cut s.data.toList sep.data.toList).2.1.toArray⟩, .bool (Lib.cut s.data.toList sep.data.toList).2.2]) ∧ ∃ n, w' = w.drewN n) : PrimAt P f pCut := by
  obtain ⟨m, hB⟩ := hB
  intro args H r h ρ im w vs hR hvs
  unfold pCut at h
  split at h
  · rename_i s c
    split at h
    · rename_i hs
      cases h
      obtain ⟨v, u, rfl, h1, h2⟩ := hvs.two
      obtain ⟨b, rfl, rfl⟩ := str_inv h1
      obtain ⟨q, rfl, rfl⟩ := str_inv h2
      have hs' : b.size < 4294967281 := by simpa [shortS, size_list] using hs
      refine (hc b q m w hs' (base_cell hR hB)).mono ?_
      rintro e w' ⟨rfl, n, rfl⟩
      exact OutR.drewN hR (.tup _ _ (.cons _ _ _ _ (str_mk _) (.cons _ _ _ _ (str_mk _) (.cons _ _ _ _ (.bool _) .nil))))
    · cases h
  · cases h
theorem pCount_at (hB : ∃ m, Base.B g 0 = some (.int .i64 m)) (hc : ∀ (s sep : ByteArray) (m : Int) (w : World), s.size < 4294967281 → w.cell? ⟨g, 0, none⟩ = some (.int .i64 m) → 1 ≤ sep.size →
    Calls P f #[.string s, .string sep] w fun e w' => e = .returned (.int .i64 (Lib.countB s sep)) ∧ w' = w) : PrimAt P f pCount := by
  obtain ⟨m, hB⟩ := hB
  intro args H r h ρ im w vs hR hvs
  unfold pCount at h
  split at h
  · rename_i s c
    split at h
    · rename_i hs
      obtain ⟨hs, hq⟩ := hs
      cases h
      obtain ⟨v, u, rfl, h1, h2⟩ := hvs.two
      obtain ⟨b, rfl, rfl⟩ := str_inv h1
      obtain ⟨q, rfl, rfl⟩ := str_inv h2
      have hs' : b.size < 4294967281 := by simpa [shortS, size_list] using hs
      refine (hc b q m w hs' (base_cell hR hB) (by simpa [size_list] using hq)).mono ?_
      rintro e w' ⟨rfl, rfl⟩
      exact OutR.same hR (.int _ _)
    · cases h
  · cases h
omit [Base] in
theorem strs_rep {n : Nat} : ∀ (l : List ByteArray), RepL ρ n im (l.map Value.string) (flatC ((l.map (·.data.toList)).map D.str))
  | [] => .nil
  | b :: l => by
    simp only [List.map_cons, flatC, List.flatMap_cons, D.cells, List.cons_append, List.nil_append]
    exact .cons _ _ _ _ rfl (.str b) (strs_rep l)
theorem pSplit_at {t : TypeId} (hB : ∃ m, Base.B g 0 = some (.int .i64 m)) (hc : ∀ (s sep : ByteArray) (m : Int) (w : World), s.size < 4294967281 → w.cell? ⟨g, 0, none⟩ = some (.int .i64 m) → 1 ≤ sep.size →
    Calls P f #[.string s, .string sep] w fun e w' => e = .returned (.slice (some ⟨w.heap.size, 0, none⟩) (Lib.countB s sep + 1) (Lib.countB s sep + 1)) ∧ w' = w.alloc (.cells ((Lib.splitB sep 0 (Lib.countB s sep) s).map Value.string).toArray t)) : PrimAt P f pSplit := by
  obtain ⟨m, hB⟩ := hB
  intro args H r h ρ im w vs hR hvs
  unfold pSplit at h
  split at h
  · rename_i s c
    split at h
    · rename_i hs
      obtain ⟨hs, hq⟩ := hs
      cases h
      obtain ⟨v, u, rfl, h1, h2⟩ := hvs.two
      obtain ⟨b, rfl, rfl⟩ := str_inv h1
      obtain ⟨q, rfl, rfl⟩ := str_inv h2
      have hs' : b.size < 4294967281 := by simpa [shortS, size_list] using hs
      have hq' : 1 ≤ q.size := by simpa [size_list] using hq
      refine (hc b q m w hs' (base_cell hR hB) hq').mono ?_
      rintro e w' ⟨rfl, rfl⟩
      have hlen : (Lib.splitB q 0 (Lib.countB b q) b).length = Lib.countB b q + 1 := Lib.splitB_all q hq' 0 _ b rfl
      have hsp : Lib.split b.data.toList q.data.toList = (Lib.splitB q 0 (Lib.countB b q) b).map (·.data.toList) := (Lib.splitB_data q 0 _ b).symm
      generalize hL : Lib.splitB q 0 (Lib.countB b q) b = L at hlen hsp
      rw [hsp]
      have hrel := hR.alloc (sz := 1) (cap := Lib.countB b q + 1) (xs := (L.map (·.data.toList)).map D.str) (c := (L.map Value.string).toArray) (t := t) (fz := (0, 0)) (by simp [hlen]) (by simp [D.cells]) (by simp [hlen])
        (by rw [List.take_of_length_le (by simp [hlen])]; exact strs_rep L) (.inr (Nat.le_refl _))
      refine .ok _ im _ _ _ _ ⟨hrel.1, ImLe.refl _, hrel.2, fun _ _ _ h => .inl h⟩ ?_
      have := vec_rep (n := (H ++ [Ob.arr ((L.map (·.data.toList)).map D.str)]).length) (im := im) (ρ := newR ρ H.length ⟨w.heap.size, 1, Lib.countB b q + 1, true⟩) (r := H.length) (m := Lib.countB b q + 1) (by simp) (newR_eq) (Nat.le_refl _)
      simpa [hlen] using this
    · cases h
  · cases h
end
end Vm
end
/- Functions of Go's library on lists of numbers: put in order. -/
section
set_option linter.unusedVariables false
set_option linter.unusedSimpArgs false
namespace Vm
open Go Go.RowKit Go.Sort
def insZ (x : Int) : List Int → List Int
  | [] => [x]
  | y :: l => if x ≤ y then x :: y :: l else y :: insZ x l
def sortZ (zs : List Int) : List Int := zs.foldr insZ []
theorem insZ_perm (x : Int) (l : List Int) : (insZ x l).Perm (x :: l) := by
  induction l with
  | nil => exact .refl _
  | cons y l ih =>
    unfold insZ
    split
    · exact .refl _
    · exact (ih.cons y).trans (.swap x y l)
theorem insZ_sorted (x : Int) (l : List Int) (h : l.Pairwise (· ≤ ·)) : (insZ x l).Pairwise (· ≤ ·) := by
  induction l with
  | nil => simp [insZ]
  | cons y l ih =>
    have h' := List.pairwise_cons.1 h
    unfold insZ
    split
    · rename_i hxy
      refine List.pairwise_cons.2 ⟨fun a ha => ?_, h⟩
      rcases List.mem_cons.1 ha with rfl | ha
      · exact hxy
      · exact Int.le_trans hxy (h'.1 a ha)
    · rename_i hxy
      refine List.pairwise_cons.2 ⟨fun a ha => ?_, ih h'.2⟩
      rcases List.mem_cons.1 ((insZ_perm x l).subset ha) with rfl | ha
      · omega
      · exact h'.1 a ha
theorem sortZ_perm (l : List Int) : (sortZ l).Perm l := by
  induction l with
  | nil => exact .refl _
  | cons x l ih => exact (insZ_perm x _).trans (ih.cons x)
theorem sortZ_sorted (l : List Int) : (sortZ l).Pairwise (· ≤ ·) := by
  induction l with
  | nil => exact .nil
  | cons x l ih => exact insZ_sorted x _ ih
theorem sorted_unique : ∀ {l l' : List Int}, l.Pairwise (· ≤ ·) → l'.Pairwise (· ≤ ·) → l.Perm l' → l = l'
  | [], l', _, _, h => by simpa using h.symm
  | x :: t, [], _, _, h => by simp at h
  | x :: t, y :: t', h1, h2, h => by
    have a1 := List.pairwise_cons.1 h1
    have a2 := List.pairwise_cons.1 h2
    have e : x = y := by
      have m1 : x ∈ y :: t' := h.subset (by simp)
      have m2 : y ∈ x :: t := h.symm.subset (by simp)
      rcases List.mem_cons.1 m1 with e | m1
      · exact e
      · rcases List.mem_cons.1 m2 with e | m2
        · exact e.symm
        · have := a2.1 x m1; have := a1.1 y m2; omega
    subst e
    rw [sorted_unique a1.2 a2.2 (List.Perm.cons_inv h)]
theorem sortZ_eq (zs : List Int) : (zs.mergeSort fun x y => decide (x ≤ y)) = sortZ zs := by
  refine sorted_unique ?_ (sortZ_sorted zs) ((List.mergeSort_perm zs _).trans (sortZ_perm zs).symm)
  have := List.pairwise_mergeSort (le := fun x y : Int => decide (x ≤ y)) (fun a b c h1 h2 => by simp at *; omega) (fun a b => by simp; omega) zs
  simpa using this
variable [Base]

def intsD : List D → Option (List Int)
  | [] => some []
  | .int .i64 n :: r => (intsD r).map (n :: ·)
  | _ => none
omit [Base] in
theorem intsD_eq : ∀ {xs : List D} {zs : List Int}, intsD xs = some zs → xs = zs.map (.int .i64)
  | [], zs, h => by cases h; rfl
  | x :: r, zs, h => by
    unfold intsD at h
    split at h
    · rename_i heq; cases heq
    · rename_i heq
      cases heq
      cases hr : intsD r with
      | none => rw [hr] at h; cases h
      | some l => rw [hr] at h; cases h; rw [intsD_eq hr]; rfl
    · cases h
omit [Base] in
theorem intsD_map (zs : List Int) : intsD (zs.map (.int .i64)) = some zs := by
  induction zs with
  | nil => rfl
  | cons z r ih => simp [intsD, ih]
def pSort : List D → Heap → Option R
  | [.vec r 0 n], H => match hget H r with
    | .arr xs => (intsD xs).bind fun zs => if n = zs.length ∧ zs.length < 4611686018427387904 ∧ 0 < zs.length then some (.ok (.tup []) (H.set r (.arr ((sortZ zs).map (.int .i64))))) else none
    | _ => none
  | [.sl _ []], H => some (.ok (.tup []) H)
  | _, _ => none
section
variable {P : Program} {ρ : Rho} {im : Im} {H : Heap} {w w' : World} {f : FuncId}
omit [Base] in
theorem repL_ints {n : Nat} : ∀ {vs : List Value} {zs : List Int}, RepL ρ n im vs (zs.map (.int .i64)) → vs = zs.map (.int .i64)
  | _, [], h => by cases h; rfl
  | _, z :: r, h => by
    cases h with
    | cons v d vs ds h1 h2 h3 =>
      cases h2
      rw [repL_ints h3]; rfl
omit [Base] in
theorem repL_ints_mk {n : Nat} (zs : List Int) : RepL ρ n im (zs.map (.int .i64)) (zs.map (.int .i64)) := by
  induction zs with
  | nil => exact .nil
  | cons z r ih => exact .cons _ _ _ _ rfl (.int _ _) ih
omit [Base] in
theorem flatC_ints (zs : List Int) : flatC (zs.map (D.int .i64)) = zs.map (.int .i64) := by
  induction zs with
  | nil => rfl
  | cons z r ih => simp only [List.map_cons, flatC, List.flatMap_cons] at *; rw [ih]; rfl
/-- a list of numbers in memory: what the library asks of it, and what is left when it is written anew -/
theorem row_ints (hR : Rel ρ im H w) {r : Nat} (hr2 : r < H.length) {zs : List Int} (hx : hget H r = .arr (zs.map (.int .i64))) (hpos : 0 < zs.length) :
    (ρ r).sz = 1 ∧ zs.length ≤ (ρ r).cap ∧ Holds (Value.int .i64) w (ρ r).b 0 zs.toArray ∧ (ρ r).b < w.heap.size ∧
      ∀ (ts : List Int) (m : Nat), ts.length = zs.length → Mv ρ im H w ρ im (H.set r (.arr (ts.map (.int .i64)))) (putRow (Value.int .i64) (Sort.ahead w m) (ρ r).b 0 ts.toArray) := by
  have hob := hR.obj r hr2
  rw [hx] at hob
  obtain ⟨c, ty, fz, h1, h2, h3, h4, h5, h6⟩ := hob
  have hsz : (ρ r).sz = 1 := by
    cases zs with
    | nil => simp at hpos
    | cons z zr => exact (h3 (.int .i64 z) (by simp)).symm
  rw [hsz, Nat.mul_one, List.length_map, flatC_ints] at h5
  have h5' := repL_ints h5
  rw [hsz, Nat.mul_one] at h2
  rw [List.length_map] at h4
  have hH : Holds (Value.int .i64) w (ρ r).b 0 zs.toArray := by
    intro j hj
    have hj' : j < zs.length := by simpa using hj
    have hjc : j < c.size := by omega
    have e1 : c.toList[j]? = some (.int .i64 zs[j]) := by
      have : (c.toList.take zs.length)[j]? = (zs.map (Value.int .i64))[j]? := by rw [h5']
      rw [List.getElem?_take_of_lt hj'] at this
      rw [this]; simp [hj']
    refine ⟨?_, ?_⟩
    · simp only [World.cell?, h1, Nat.zero_add]
      simp only [Option.isSome_none, Bool.false_eq_true, if_false]
      rw [← Array.getElem?_toList, e1]
      simp [hj']
    · simp only [World.frozen?, h1]
      simp only [Bool.and_eq_false_iff, decide_eq_false_iff_not]
      omega
  have hblk : (ρ r).b < w.heap.size := (Array.getElem?_eq_some_iff.1 h1).1
  refine ⟨hsz, h4, hH, hblk, fun ts m hs => ?_⟩
  have hl : live (hget H r) := by rw [hx]; trivial
  have hrow : (putRow (Value.int .i64) (Sort.ahead w m) (ρ r).b 0 ts.toArray).heap[(ρ r).b]? = some (.cells (putCells (Value.int .i64) 0 ts.toArray c) ty fz) := by
    simp [putRow, mapBlock, Sort.ahead, Array.getElem?_modify, h1, onCells]
  have hoth : ∀ b, b ≠ (ρ r).b → (putRow (Value.int .i64) (Sort.ahead w m) (ρ r).b 0 ts.toArray).heap[b]? = w.heap[b]? := by
    intro b hb
    have : (ρ r).b ≠ b := fun e => hb e.symm
    simp [putRow, mapBlock, Sort.ahead, Array.getElem?_modify, this]
  have htake : (putCells (Value.int .i64) 0 ts.toArray c).toList.take ts.length = ts.map (Value.int .i64) := by
    apply List.ext_getElem?
    intro j
    by_cases hj : j < ts.length
    · rw [List.getElem?_take_of_lt hj, Array.getElem?_toList]
      simp [putCells, hj, show j < c.size by omega]
    · rw [List.getElem?_take_eq_none (by omega), List.getElem?_eq_none (by simp; omega)]
  have hok : ObOk ρ H.length im (putRow (Value.int .i64) (Sort.ahead w m) (ρ r).b 0 ts.toArray) (ρ r) (.arr (ts.map (.int .i64))) := by
    refine ⟨_, ty, fz, hrow, by simp [putCells, h2, hsz], ?_, by simp [hs]; exact h4, ?_, by simpa [putCells] using h6⟩
    · intro x hx'
      obtain ⟨z, -, rfl⟩ := List.mem_map.1 hx'
      rw [hsz]; rfl
    · rw [hsz, Nat.mul_one, List.length_map, flatC_ints, htake]
      exact repL_ints_mk _
  exact ⟨hR.setOb hr2 hl hoth hok, ImLe.refl _, Tr.setOb hr2 hl hoth (by simp [putRow, mapBlock, Sort.ahead]) rfl rfl rfl, fun _ _ _ h => .inl h⟩
theorem pSort_at (hc : ∀ (blk cap : Nat) (zs : List Int) (w : World), Holds (Value.int .i64) w blk 0 zs.toArray → blk < w.heap.size → zs.length < 4611686018427387904 →
      Calls P f #[.slice (some ⟨blk, 0, none⟩) zs.length cap] w fun e w' => e = .returned (.tuple #[]) ∧ ∃ n os, w' = grow (putRow (Value.int .i64) (Sort.ahead w n) blk 0 (zs.mergeSort fun x y => decide (x ≤ y)).toArray) os)
    (hc0 : ∀ (p : Option Addr) (cap : Nat) (w : World), Calls P f #[.slice p 0 cap] w fun e w' => e = .returned (.tuple #[]) ∧ w' = w) : PrimAt P f pSort := by
  intro args H r h ρ im w vs hR hvs
  unfold pSort at h
  split at h
  · rename_i r n
    split at h
    · rename_i xs hx
      cases hz : intsD xs with
      | none => rw [hz] at h; cases h
      | some zs =>
        rw [hz] at h
        simp only [Option.bind_some] at h
        split at h
        · rename_i hn
          obtain ⟨rfl, hlen, hpos⟩ := hn
          cases h
          have hxs := intsD_eq hz
          subst hxs
          cases hvs with
          | cons v d vs ds hv hr =>
            cases hr
            cases hv with
            | vec _ _ _ hr2 hcap =>
              obtain ⟨hsz, hcap2, hH, hblk, hmv⟩ := row_ints hR hr2.lt hx hpos
              rw [Nat.zero_mul]
              refine (hc (ρ r).b _ zs w hH hblk hlen).mono ?_
              rintro e w' ⟨rfl, m, os, hw⟩
              rw [sortZ_eq] at hw
              subst hw
              have m1 := hmv (sortZ zs) m (sortZ_perm zs).length_eq
              have hgrow : ∀ b, b < (putRow (Value.int .i64) (Sort.ahead w m) (ρ r).b 0 (sortZ zs).toArray).heap.size → (grow (putRow (Value.int .i64) (Sort.ahead w m) (ρ r).b 0 (sortZ zs).toArray) os).heap[b]? = (putRow (Value.int .i64) (Sort.ahead w m) (ρ r).b 0 (sortZ zs).toArray).heap[b]? :=
                fun b hb => heap_grow_old _ _ hb
              have m2 := m1.trans ⟨m1.rel.world hgrow, ImLe.refl _, Tr.world hgrow (by simp [grow]) rfl rfl rfl, fun _ _ _ h => .inl h⟩
              exact .ok ρ im _ _ _ _ m2 (.tup [] [] .nil)
        · cases h
    · cases h
  · rename_i f2
    cases h
    cases hvs with
    | cons v d vs ds hv hr =>
      cases hr
      cases hv with
      | sl0 a cap f hf =>
        refine (hc0 a cap w).mono ?_
        rintro e w' ⟨rfl, rfl⟩
        exact OutR.same hR (.tup [] [] .nil)
      | sl b o sz cap f xs vs hs hc' h hf hcap =>
        refine (hc0 _ cap w).mono ?_
        rintro e w' ⟨rfl, rfl⟩
        exact OutR.same hR (.tup [] [] .nil)
  · cases h
/-- each number but once, of those that stand together; what is left over is nothing -/
def compactZ (zs : List Int) : List Int := Lib.compact zs ++ List.replicate (zs.length - (Lib.compact zs).length) 0
def pCompact : List D → Heap → Option R
  | [.vec r 0 n], H => match hget H r with
    | .arr xs => (intsD xs).bind fun zs => if n = zs.length ∧ zs.length < 4611686018427387904 ∧ 0 < zs.length ∧ (Lib.compact zs).length ≤ zs.length then some (.ok (.vec r 0 (Lib.compact zs).length) (H.set r (.arr ((compactZ zs).map (.int .i64))))) else none
    | _ => none
  | [.sl f []], H => some (.ok (.sl f []) H)
  | _, _ => none
theorem pCompact_at (hc : ∀ (blk cap : Nat) (zs : List Int) (w : World), Holds (Value.int .i64) w blk 0 zs.toArray → zs.length ≤ 9223372036854775807 → zs.length ≤ cap →
      Calls P f #[.slice (some ⟨blk, 0, none⟩) zs.length cap] w fun e w' => e = .returned (.slice (some ⟨blk, 0, none⟩) (Lib.compact zs).length cap) ∧ ∃ q, w' = putRow (Value.int .i64) (Sort.ahead w q) blk 0 (Lib.compact zs ++ List.replicate (zs.length - (Lib.compact zs).length) 0).toArray)
    (hc0 : ∀ (p : Option Addr) (cap : Nat) (w : World), Calls P f #[.slice p 0 cap] w fun e w' => e = .returned (.slice p 0 cap) ∧ w' = w) : PrimAt P f pCompact := by
  intro args H r h ρ im w vs hR hvs
  unfold pCompact at h
  split at h
  · rename_i r n
    split at h
    · rename_i xs hx
      cases hz : intsD xs with
      | none => rw [hz] at h; cases h
      | some zs =>
        rw [hz] at h
        simp only [Option.bind_some] at h
        split at h
        · rename_i hn
          obtain ⟨rfl, hlen, hpos, hle⟩ := hn
          cases h
          have hxs := intsD_eq hz
          subst hxs
          cases hvs with
          | cons v d vs ds hv hr =>
            cases hr
            cases hv with
            | vec _ _ _ hr2 hcap =>
              obtain ⟨hsz, hcap2, hH, hblk, hmv⟩ := row_ints hR hr2.lt hx hpos
              rw [Nat.zero_mul]
              refine (hc (ρ r).b _ zs w hH (by omega) (by omega)).mono ?_
              rintro e w' ⟨rfl, q, rfl⟩
              have m1 := hmv (compactZ zs) q (by simp [compactZ]; omega)
              have hrep := Rep.vec (ρ := ρ) (n := (H.set r (.arr ((compactZ zs).map (D.int .i64)))).length) (im := im) r 0 (Lib.compact zs).length (by simpa using hr2) (by omega)
              rw [Nat.zero_mul] at hrep
              exact .ok ρ im _ _ _ _ m1 hrep
        · cases h
    · cases h
  · rename_i f2
    cases h
    cases hvs with
    | cons v d vs ds hv hr =>
      cases hr
      cases hv with
      | sl0 a cap f hf =>
        refine (hc0 a cap w).mono ?_
        rintro e w' ⟨rfl, rfl⟩
        exact OutR.same hR (.sl0 _ _ _ hf)
      | sl b o sz cap f xs vs hs hc' h hf hcap =>
        refine (hc0 _ cap w).mono ?_
        rintro e w' ⟨rfl, rfl⟩
        exact OutR.same hR (.sl0 _ _ _ (fun h => by simpa using hf h))
  · cases h
end
end Vm
end
/- The chapter on layout tables: the functions that are taken as they are, those that write what others hold; a run. -/
section
set_option maxHeartbeats 4000000
set_option linter.unusedVariables false
set_option linter.unusedSimpArgs false
-- use:
namespace Go.Proofs.W
open Go Vm Go.Proofs.Zs14

def states : List Nat := [13, 14, 19]
def A : Ann := { mode := fun f => if states.contains f then .state else .pure, prim := fun f =>
  if f = 11 then some pSort else if f = 12 then some pCompact else none, fz := fun t => t == 27 }
theorem A_fz (t : TypeId) : A.fz t = (t == 27) := rfl
attribute [go_sem] A_fz
def okTrue : Option R → Bool
  | some (.ok (.bool b) _) => b
  | _ => false
theorem alive_run : okTrue (runF Tryz.prog A 80 4 [] []) = true := by kernel_rfl
end Go.Proofs.W
end
/- Runs that are closed; functions that say yes. -/
section
set_option maxHeartbeats 4000000
set_option linter.unusedVariables false
set_option linter.unusedSimpArgs false
namespace Go.Proofs.W
open Go Vm Go.Proofs.Zs14

theorem okTrue_run {f : FuncId} {k : Nat} (h : okTrue (runF Tryz.prog A k f [] []) = true) : PureF Tryz.prog A f [] (.bool true) := by
  cases hr : runF Tryz.prog A k f [] [] with
  | none => rw [hr] at h; cases h
  | some r =>
    rw [hr] at h
    refine ⟨k, r, hr, ?_⟩
    cases r with
    | pan d H => cases h
    | ok d H =>
      cases d <;> simp only [okTrue] at h <;> try (cases h; done)
      subst h; rfl
abbrev Yes (f : FuncId) (args : List D) : Prop := EvF Tryz.prog A f args [] (fun d _ => d = .bool true) (fun _ _ => False)
theorem run_of_yes {f : FuncId} {args : List D} (h : Yes f args) : ∃ k H', runF Tryz.prog A k f args [] = some (.ok (.bool true) H') := by
  obtain ⟨k, r, h1, h2⟩ := h
  cases r with
  | pan d H => exact h2.elim
  | ok d H => exact ⟨k, H, by rw [h1, show d = .bool true from h2]⟩

end Go.Proofs.W
end
/- Sorted and compacted lists of numbers, for chapters without machines. -/
section
set_option maxHeartbeats 4000000
set_option linter.unusedVariables false
set_option linter.unusedSimpArgs false
namespace Go.Proofs.W
open Go Vm Go.Proofs.Zs14

def listZ (k : Nat) (p : Nat → Bool) : List Int := ((List.range k).filter p).map fun (i : Nat) => (i : Int)
theorem listZ_succ {k : Nat} {p : Nat → Bool} : listZ (k + 1) p = listZ k p ++ if p k then [(k : Int)] else [] := by
  unfold listZ
  rw [List.range_succ, List.filter_append, List.map_append]
  congr 1
  by_cases h : p k = true <;> simp [h]
theorem listZ_len (k : Nat) (p : Nat → Bool) : (listZ k p).length ≤ k := by
  have := List.length_filter_le p (List.range k)
  simp [listZ] at this ⊢; exact this
theorem mem_listZ {k : Nat} {p : Nat → Bool} {s : Int} : s ∈ listZ k p ↔ ∃ i, i < k ∧ p i = true ∧ s = i := by
  simp only [listZ, List.mem_map, List.mem_filter, List.mem_range]
  exact ⟨fun ⟨a, ⟨h1, h2⟩, h3⟩ => ⟨a, h1, h2, h3.symm⟩, fun ⟨a, h1, h2, h3⟩ => ⟨a, ⟨h1, h2⟩, h3.symm⟩⟩
theorem strict_unique : ∀ {l l' : List Int}, l.Pairwise (· < ·) → l'.Pairwise (· < ·) → (∀ x, x ∈ l ↔ x ∈ l') → l = l'
  | [], [], _, _, _ => rfl
  | [], y :: t', _, _, h => by have := (h y).2 (by simp); cases this
  | x :: t, [], _, _, h => by have := (h x).1 (by simp); cases this
  | x :: t, y :: t', h1, h2, h => by
    have a1 := List.pairwise_cons.1 h1
    have a2 := List.pairwise_cons.1 h2
    have hx := (h x).1 (by simp)
    have hy := (h y).2 (by simp)
    have e : x = y := by
      rcases List.mem_cons.1 hx with e | hx
      · exact e
      · rcases List.mem_cons.1 hy with e | hy
        · exact e.symm
        · have := a1.1 y hy
          have := a2.1 x hx
          omega
    subst e
    refine congrArg (x :: ·) (strict_unique a1.2 a2.2 fun z => ⟨fun hz => ?_, fun hz => ?_⟩)
    · rcases List.mem_cons.1 ((h z).1 (List.mem_cons_of_mem _ hz)) with rfl | hz'
      · have := a1.1 _ hz; omega
      · exact hz'
    · rcases List.mem_cons.1 ((h z).2 (List.mem_cons_of_mem _ hz)) with rfl | hz'
      · have := a2.1 _ hz; omega
      · exact hz'
theorem listZ_strict (k : Nat) (p : Nat → Bool) : (listZ k p).Pairwise (· < ·) := by
  induction k with
  | zero => simp [listZ]
  | succ k ih =>
    rw [listZ_succ]
    cases hp : p k with
    | false => simpa using ih
    | true =>
      simp only [if_true, List.pairwise_append]
      refine ⟨ih, by simp, fun x hx y hy => ?_⟩
      obtain ⟨i, h1, h2, h3⟩ := mem_listZ.1 hx
      simp at hy; omega
theorem le_of_lt_pw {l : List Int} (h : l.Pairwise (· < ·)) : l.Pairwise (· ≤ ·) := h.imp fun h => Int.le_of_lt h
theorem strict_of {l : List Int} (h : l.Pairwise (· ≤ ·)) (hn : l.Nodup) : l.Pairwise (· < ·) := by
  have := List.pairwise_and_iff.2 ⟨h, hn⟩
  exact this.imp fun h => by have := h.1; have := h.2; omega
theorem compact_spec (d : Array Int) (hd : ∀ i j, i ≤ j → j < d.size → d[i]! ≤ d[j]!) : ∀ m, m ≤ d.size → (Lib.compactUpTo d m).Pairwise (· < ·) ∧ ∀ x, x ∈ Lib.compactUpTo d m ↔ ∃ j, j < m ∧ d[j]! = x
  | 0, _ => by simp [Lib.compactUpTo]
  | m + 1, hm => by
    obtain ⟨h1, h2⟩ := compact_spec d hd m (by omega)
    rw [Lib.compactUpTo_succ]
    cases hk : Lib.keeps d m with
    | true =>
      simp only [if_true]
      have hlt : ∀ j, j < m → d[j]! < d[m]! := by
        intro j hj
        simp only [Lib.keeps, decide_eq_true_eq] at hk
        have := hd j (m - 1) (by omega) (by omega)
        have := hd (m - 1) m (by omega) (by omega)
        rcases hk with hk | hk
        · omega
        · omega
      refine ⟨List.pairwise_append.2 ⟨h1, by simp, fun x hx y hy => ?_⟩, fun x => ?_⟩
      · obtain ⟨j, j1, j2⟩ := (h2 x).1 hx
        have := hlt j j1
        simp at hy; omega
      · rw [List.mem_append, h2]
        constructor
        · rintro (⟨j, j1, j2⟩ | hx)
          · exact ⟨j, by omega, j2⟩
          · exact ⟨m, by omega, by simpa using Eq.symm (by simpa using hx)⟩
        · rintro ⟨j, j1, j2⟩
          by_cases e : j = m
          · subst e; exact .inr (by simp [← j2])
          · exact .inl ⟨j, by omega, j2⟩
    | false =>
      simp only [Bool.false_eq_true, if_false, List.append_nil]
      refine ⟨h1, fun x => ?_⟩
      rw [h2]
      simp only [Lib.keeps, decide_eq_false_iff_not, not_or, Decidable.not_not] at hk
      constructor
      · rintro ⟨j, j1, j2⟩; exact ⟨j, by omega, j2⟩
      · rintro ⟨j, j1, j2⟩
        by_cases e : j = m
        · subst e; exact ⟨j - 1, by omega, by rw [← hk.2]; exact j2⟩
        · exact ⟨j, by omega, j2⟩
theorem pw_get {l : List Int} (h : l.Pairwise (· ≤ ·)) (i j : Nat) (hij : i ≤ j) (hj : j < l.toArray.size) : l.toArray[i]! ≤ l.toArray[j]! := by
  simp at hj
  rw [getElem!_pos l.toArray i (by simp; omega), getElem!_pos l.toArray j (by simpa using hj)]
  simp
  by_cases e : i = j
  · subst e; exact Int.le_refl _
  · exact List.pairwise_iff_getElem.1 h i j (by omega) hj (by omega)
theorem compact_sorted (zs : List Int) : (Lib.compact (sortZ zs)).Pairwise (· < ·) ∧ ∀ x, x ∈ Lib.compact (sortZ zs) ↔ x ∈ zs := by
  have hs := sortZ_sorted zs
  obtain ⟨h1, h2⟩ := compact_spec (sortZ zs).toArray (pw_get hs) (sortZ zs).length (by simp)
  refine ⟨h1, fun x => ?_⟩
  rw [← (sortZ_perm zs).mem_iff]
  show x ∈ Lib.compactUpTo _ _ ↔ _
  rw [h2, List.mem_iff_getElem]
  constructor
  · rintro ⟨j, j1, j2⟩
    exact ⟨j, j1, by rw [← j2, getElem!_pos (sortZ zs).toArray j (by simpa using j1)]; simp⟩
  · rintro ⟨j, j1, j2⟩
    exact ⟨j, j1, by rw [← j2, getElem!_pos (sortZ zs).toArray j (by simpa using j1)]; simp⟩
theorem compact_len (zs : List Int) : (Lib.compact zs).length ≤ zs.length := by
  unfold Lib.compact Lib.compactUpTo
  have := List.length_filter_le (Lib.keeps zs.toArray) (List.range zs.length)
  simpa using this
theorem sortZ_len (zs : List Int) : (sortZ zs).length = zs.length := (sortZ_perm zs).length_eq
theorem sort_vec {m : Nat} {d : D} {H : Heap} {zs : List Int} (h : VecAt m d H (zs.map (.int .i64))) (hl : zs.length ≤ 1000000) : ∃ H', pSort [d] H = some (.ok (.tup []) H') ∧ VecAt m d H' ((sortZ zs).map (.int .i64)) ∧ Same m H H' := by
  obtain ⟨h0, h | ⟨h1, r, h2, h3, h4, h5⟩⟩ := h
  · obtain ⟨h1, rfl⟩ := h
    obtain rfl : zs = [] := by simpa using h1
    exact ⟨H, rfl, ⟨h0, .inl ⟨rfl, rfl⟩⟩, Same.refl⟩
  · have hz : zs ≠ [] := by simpa using h1
    subst h4
    refine ⟨H.set r (.arr ((sortZ zs).map (.int .i64))), ?_, ⟨by simpa using h0, .inr ⟨?_, r, h2, by simpa using h3, ?_, hget_set_eq h3⟩⟩, Same.set h2⟩
    · simp only [pSort, h5, intsD_map, Option.bind_some]
      rw [if_pos ⟨by simp, by omega, by cases zs with | nil => exact absurd rfl hz | cons a b => simp⟩]
    · have := sortZ_len zs
      intro e
      have e2 : sortZ zs = [] := by simpa using e
      rw [e2] at this
      cases zs with
      | nil => exact hz rfl
      | cons a b => simp at this
    · simp [sortZ_len]
theorem compact_vec {m : Nat} {d : D} {H : Heap} {zs : List Int} (h : VecAt m d H (zs.map (.int .i64))) (hl : zs.length ≤ 1000000) : ∃ d' H', pCompact [d] H = some (.ok d' H') ∧ outPure H' d' = some (isD (Lib.compact zs)) ∧ Same m H H' := by
  obtain ⟨h0, h | ⟨h1, r, h2, h3, h4, h5⟩⟩ := h
  · obtain ⟨h1, rfl⟩ := h
    obtain rfl : zs = [] := by simpa using h1
    exact ⟨_, H, rfl, rfl, Same.refl⟩
  · have hz : zs ≠ [] := by simpa using h1
    subst h4
    refine ⟨.vec r 0 (Lib.compact zs).length, H.set r (.arr ((compactZ zs).map (.int .i64))), ?_, ?_, Same.set h2⟩
    · simp only [pCompact, h5, intsD_map, Option.bind_some]
      rw [if_pos ⟨by simp, by omega, by cases zs with | nil => exact absurd rfl hz | cons a b => simp, compact_len zs⟩]
    · unfold outPure deepest
      rw [pur_vec, hget_set_eq h3]
      have hcl : (compactZ zs).length = zs.length := by have := compact_len zs; simp [compactZ]; omega
      have htk : (((compactZ zs).map (D.int .i64)).drop 0).take (Lib.compact zs).length = (Lib.compact zs).map (.int .i64) := by
        rw [List.drop_zero, ← List.map_take]
        congr 1
        simp [compactZ]
      have hle := compact_len zs
      simp only [Nat.zero_add, List.length_map, hcl, if_pos hle, htk]
      rw [purL_strip (strip_ints _)]
      rfl
theorem app_int {m : Nat} {d : D} {H : Heap} {l : List Int} (h : VecAt m d H (l.map (.int .i64))) (x : Int) (hl : l.length ≤ 1000000) : ∃ d' H', appendD Tryz.prog 27 (H ++ [Ob.arr [.int .i64 x]]) d (.vec H.length 0 1) = some (d', H') ∧ VecAt m d' H' ((l ++ [x]).map (.int .i64)) ∧ Same m H H' := by
  have := VecAt.append el27 sz3 by3 zr3 rfl (by decide) h (q := .int .i64 x) rfl rfl (headInts l) (by simp; omega)
  simpa using this
theorem pures_vec {m : Nat} {a v : D} {H : Heap} {xs : List D} (h : VecAt m v H xs) (hs : stripL xs = some xs) (ha : strip a = some a) : ∃ H', pures H [a, v] = some ([a, .sl false xs], H') := by
  obtain ⟨H', hp⟩ := h.pur (k := 4) hs
  refine ⟨H', ?_⟩
  simp only [pures, deepest, purL, pur_strip ha, Option.bind_some, hp, Option.map_some]
/-- more behind a list of one's own -/
theorem vecAt_appendL {t e : TypeId} {n w m : Nat} {z d y : D} {H H1 : Heap} {xs ys : List D} (he : elemT Tryz.prog t = some e) (hn : sizeT Tryz.prog e = some n) (hw : bytesT Tryz.prog e = some w) (hz : zeroT Tryz.prog e = some z) (hzn : z.cells.length = n) (hw0 : w ≠ 0)
    (h : VecAt m d H xs) (hl : H.length ≤ H1.length) (hk : ∀ r, r < H.length → hget H1 r = hget H r) (hadd : addedD H1 y = some (ys, H1)) (hy : ys ≠ []) (hys : headSize n ys = true) (hx : headSize n xs = true) (hm : (xs.length + ys.length) * w ≤ 140737488355328) :
    ∃ d' H', appendD Tryz.prog t H1 d y = some (d', H') ∧ VecAt m d' H' (xs ++ ys) ∧ Same m H H' := by
  have hye : ys.isEmpty = false := by simpa using hy
  obtain ⟨h0, ⟨rfl, rfl⟩ | ⟨h1, r, h2, h4, rfl, h3⟩⟩ := h
  · refine ⟨.vec H1.length 0 (0 + ys.length), H1 ++ [Ob.arr ([] ++ ys)], ?_, ⟨by simp; omega, .inr ⟨by simpa using hy, H1.length, by omega, by simp, by simp, ?_⟩⟩, ⟨by simp; omega, fun k hk' => ?_⟩⟩
    · simp only [appendD, he, hn, hw, hz, Option.bind_some, hadd, hzn]
      have hm' : ys.length * w ≤ 140737488355328 := by simpa using hm
      have h0s : headSize n ([] : List D) = true := rfl
      simp [hw0, hys, hye, h0s, mostBytes, hm']
    · rw [hget_app0]; rfl
    · rw [hget_app_lt (by omega), hk k (by omega)]
  · have hg : hget H1 r = .arr xs := by rw [hk r h4, h3]
    have hne : xs.isEmpty = false := by simpa using h1
    refine ⟨.vec H1.length 0 (xs.length + ys.length), H1.set r Ob.dead ++ [Ob.arr (xs ++ ys)], ?_, ⟨by simp; omega, .inr ⟨by simp [h1], H1.length, by omega, by simp, by simp, ?_⟩⟩, ⟨by simp; omega, fun k hk' => ?_⟩⟩
    · simp only [appendD, he, hn, hw, hz, Option.bind_some, hadd, hzn]
      simp [hw0, hys, hye, hg, hx, hne, hm, mostBytes]
    · have := hget_app0 (H := H1.set r Ob.dead) (L := [Ob.arr (xs ++ ys)])
      rw [List.length_set] at this
      rw [this]; rfl
    · rw [hget_app_lt (by simp; omega), hget_set_ne (by omega), hk k (by omega)]
theorem vecAt_elems {m : Nat} {d : D} {H : Heap} {xs : List D} (h : VecAt m d H xs) : Vm.elems H d = some xs := by
  obtain ⟨h0, ⟨rfl, rfl⟩ | ⟨h1, r, h2, h4, rfl, h3⟩⟩ := h
  · rfl
  · simp [Vm.elems, h3]
end Go.Proofs.W
end
/- Lists of numbers, for every chapter that does not speak of rules. -/
section
set_option maxHeartbeats 4000000
set_option linter.unusedVariables false
set_option linter.unusedSimpArgs false
namespace Go.Proofs.W
open Go Vm Go.Proofs.Zs14

theorem ints_ok (a b : List Int) (ha : a.length ≤ 9223372036854775807) : PureF Tryz.prog A 7 [isD a, isD b] (.bool (a == b)) := by
  refine evF_inB (n := 26) (rs := [.tmp 4]) Tryz.func7 rfl rfl rfl rfl rfl rfl ?_
  by_cases hab : a.length = b.length
  · have hz : (a == b) = (a.drop 0 == b.drop 0) := rfl
    rw [hz]
    generalize hG : (a.drop 0 == b.drop 0) = G
    clear hz
    repeat' (first | refine wz1 ?_ | refine wz2 ?_ | refine wz3 ?_ | refine wz4 ?_ | refine wz5 ?_ | refine wz6 ?_ | simp -dsimp (maxSteps:=999999) (disch:=omega) only[go_sem,simprocAttr, *,isD])
    refine wz7 (fun hb => ?_) (fun hb => ?_) <;> try simp -dsimp (maxSteps:=999999) (disch:=omega) only[go_sem,simprocAttr,decide_eq_true_eq,decide_eq_false_iff_not,Bool.not_eq_true,Bool.not_eq_false,Int.not_lt,Int.not_le] at hb
    repeat' (first | refine wz1 ?_ | refine wz2 ?_ | refine wz3 ?_ | refine wz4 ?_ | refine wz5 ?_ | refine wz6 ?_ | simp -dsimp (maxSteps:=999999) (disch:=omega) only[go_sem,simprocAttr, *])
    refine wpB_loop (fun e H => ∃ (j : Nat), j ≤ a.length ∧ e 0 = isD a ∧ e 1 = isD b ∧ e 5 = .int .i64 j ∧ G = (a.drop j == b.drop j)) (fun e H => a.length - natOf (e 5)) ?_ ?_
    · exact ⟨0, Nat.zero_le _, by simp -dsimp (maxSteps:=999999) (disch:=omega) only[go_sem,simprocAttr, *,isD], by simp -dsimp (maxSteps:=999999) (disch:=omega) only[go_sem,simprocAttr, *,isD], rfl, hG.symm⟩
    · clear hG
      rintro e H ⟨j, hj, e0, e1, e5, ht⟩ R hR
      repeat' (first | refine wz1 ?_ | refine wz2 ?_ | refine wz3 ?_ | refine wz4 ?_ | refine wz5 ?_ | refine wz6 ?_ | simp -dsimp (maxSteps:=999999) (disch:=omega) only[go_sem,simprocAttr, *,isD])
      refine wz7 (fun hb => ?_) (fun hb => ?_) <;> try simp -dsimp (maxSteps:=999999) (disch:=omega) only[go_sem,simprocAttr,decide_eq_true_eq,decide_eq_false_iff_not,Bool.not_eq_true,Bool.not_eq_false,Int.not_lt,Int.not_le] at hb
      · have hjb : j < b.length := by omega
        have hja : j < a.length := by omega
        rw [List.drop_eq_getElem_cons hja, List.drop_eq_getElem_cons hjb, List.cons_beq_cons] at ht
        by_cases hq : a[j] = b[j]
        · have hq' : (a[j] == b[j]) = true := by simp [hq]
          rw [hq', Bool.true_and] at ht
          clear hq'
          have hbq : (b[j] != b[j]) = false := by simp
          repeat' (first | refine wz1 ?_ | refine wz2 ?_ | refine wz3 ?_ | refine wz4 ?_ | refine wz5 ?_ | refine wz6 ?_ | simp -dsimp (maxSteps:=999999) (disch:=omega) only[go_sem,simprocAttr, *,isD])
          refine wpB_regionXL (prs := []) (by kernel_rfl) rfl (by kernel_rfl) ?_; simp -dsimp (maxSteps:=999999) (disch:=omega) only[go_sem,simprocAttr, *,isD]
          refine wz7 (fun hb2 => ?_) (fun hb2 => ?_) <;> try simp -dsimp (maxSteps:=999999) (disch:=omega) only[go_sem,simprocAttr,decide_eq_true_eq,decide_eq_false_iff_not,Bool.not_eq_true,Bool.not_eq_false,Int.not_lt,Int.not_le] at hb2
          repeat' (first | refine wz1 ?_ | refine wz2 ?_ | refine wz3 ?_ | refine wz4 ?_ | refine wz5 ?_ | refine wz6 ?_ | simp -dsimp (maxSteps:=999999) (disch:=omega) only[go_sem,simprocAttr, *])
          refine hR _ _ ⟨j + 1, by omega, by simp -dsimp (maxSteps:=999999) (disch:=omega) only[go_sem,simprocAttr, *,isD], by simp -dsimp (maxSteps:=999999) (disch:=omega) only[go_sem,simprocAttr, *,isD], gs, ht⟩ ?_
          simp -dsimp (maxSteps:=999999) (disch:=omega) only[go_sem,simprocAttr, *,natOf_int]
        · have hq' : (a[j] == b[j]) = false := by simp [hq]
          rw [hq', Bool.false_and] at ht
          rw [ht]
          clear hq'
          repeat' (first | refine wz1 ?_ | refine wz2 ?_ | refine wz3 ?_ | refine wz4 ?_ | refine wz5 ?_ | refine wz6 ?_ | simp -dsimp (maxSteps:=999999) (disch:=omega) only[go_sem,simprocAttr, *,isD])
          refine wpB_regionXL (prs := []) (by kernel_rfl) rfl (by kernel_rfl) ?_; simp -dsimp (maxSteps:=999999) (disch:=omega) only[go_sem,simprocAttr, *,isD]
          refine wz7 (fun hb2 => ?_) (fun hb2 => ?_) <;> try simp -dsimp (maxSteps:=999999) (disch:=omega) only[go_sem,simprocAttr,decide_eq_true_eq,decide_eq_false_iff_not,Bool.not_eq_true,Bool.not_eq_false,Int.not_lt,Int.not_le] at hb2
          repeat' (first | refine wz1 ?_ | refine wz2 ?_ | refine wz3 ?_ | refine wz4 ?_ | refine wz5 ?_ | refine wz6 ?_ | simp -dsimp (maxSteps:=999999) (disch:=omega) only[go_sem,simprocAttr, *])
          try rfl
      · rw [List.drop_eq_nil_of_le (by omega), List.drop_eq_nil_of_le (by omega)] at ht
        have : G = true := ht
        rw [this]
        repeat' (first | refine wz1 ?_ | refine wz2 ?_ | refine wz3 ?_ | refine wz4 ?_ | refine wz5 ?_ | refine wz6 ?_ | simp -dsimp (maxSteps:=999999) (disch:=omega) only[go_sem,simprocAttr, *])
        try rfl
  · have hz : (a == b) = false := by simp; rintro rfl; exact hab rfl
    rw [hz]
    repeat' (first | refine wz1 ?_ | refine wz2 ?_ | refine wz3 ?_ | refine wz4 ?_ | refine wz5 ?_ | refine wz6 ?_ | simp -dsimp (maxSteps:=999999) (disch:=omega) only[go_sem,simprocAttr, *,isD])
    refine wz7 (fun hb => ?_) (fun hb => ?_) <;> try simp -dsimp (maxSteps:=999999) (disch:=omega) only[go_sem,simprocAttr,decide_eq_true_eq,decide_eq_false_iff_not,Bool.not_eq_true,Bool.not_eq_false,Int.not_lt,Int.not_le] at hb
    repeat' (first | refine wz1 ?_ | refine wz2 ?_ | refine wz3 ?_ | refine wz4 ?_ | refine wz5 ?_ | refine wz6 ?_ | simp -dsimp (maxSteps:=999999) (disch:=omega) only[go_sem,simprocAttr, *])
    try rfl
end Go.Proofs.W
end
/- Layout tables: the script of a tag. -/
section
set_option maxHeartbeats 4000000
set_option linter.unusedVariables false
set_option linter.unusedSimpArgs false
namespace Go.Proofs.W
open Go Vm Go.Proofs.Zs14

theorem alive_ok : PureF Tryz.prog A 4 [] (.bool true) := okTrue_run alive_run
/-- a tag and its numbers -/
abbrev TL := List UInt8 × List Int
def tlD (x : TL) : D := .agg [.str x.1, isD x.2]
def tlsD (l : List TL) : D := .sl false (l.map tlD)
def layD (ss fs : List TL) (ls : List D) : D := .agg [tlsD ss, tlsD fs, .sl false ls]
theorem strip_tl (x : TL) : strip (tlD x) = some (tlD x) := by simp [tlD, strip, stripL, strip_is]
theorem strip_tls (l : List TL) : stripL (l.map tlD) = some (l.map tlD) := by
  induction l with
  | nil => rfl
  | cons q r ih => simp [stripL, ih, strip_tl]
theorem strip_lay {ss fs : List TL} {ls : List D} (h : stripL ls = some ls) : strip (layD ss fs ls) = some (layD ss fs ls) := by
  simp [layD, tlsD, strip, stripL, strip_tls, h]
theorem lay_noTup (ss fs : List TL) (ls : List D) : noTup (layD ss fs ls) = true := rfl
theorem lay_cells (ss fs : List TL) (ls : List D) : (layD ss fs ls).cells = [.sl false (ss.map tlD), .sl false (fs.map tlD), .sl false ls] := rfl
theorem lay_aggQ (ss fs : List TL) (ls : List D) : aggQ (layD ss fs ls) = true := rfl
theorem tl_noTup (x : TL) : noTup (tlD x) = true := rfl
theorem tl_cells (x : TL) : (tlD x).cells = [.str x.1, .sl false (x.2.map (.int .i64))] := rfl
theorem tl_aggQ (x : TL) : aggQ (tlD x) = true := rfl
theorem tl_get {l : List TL} {i : Nat} (h : i < l.length) : (l.map tlD)[i]? = some (tlD l[i]) := by simp [h]
def dflt : List UInt8 := [68, 70, 76, 84]
def findT (w : List UInt8) : List TL → Option TL
  | [] => none
  | s :: l => if s.1 = w then some s else findT w l
def orT : Option TL → TL × Bool → TL × Bool
  | some s, _ => (s, true)
  | none, r => r
def noneT : TL × Bool := (([], []), false)
def scriptR (ss : List TL) (tag : List UInt8) : TL × Bool := orT (findT tag ss) (orT (findT dflt ss) noneT)
def tbD (x : TL × Bool) : D := .tup [tlD x.1, .bool x.2]
theorem strip_tb (x : TL × Bool) : strip (tbD x) = some (tbD x) := by
  have := strip_tl x.1
  simp [tbD, strip, stripL, this]
theorem find_drop {w : List UInt8} {l : List TL} {j : Nat} (h : j < l.length) : findT w (l.drop j) = if (l[j].1 == w) = true then some l[j] else findT w (l.drop (j + 1)) := by
  rw [List.drop_eq_getElem_cons h, findT]
  by_cases e : l[j].1 = w
  · rw [if_pos e, if_pos (by simpa using e)]
  · rw [if_neg e, if_neg (by simpa using e)]
theorem script_ok (ss fs : List TL) (ls : List D) (tag : List UInt8) (hs : ss.length ≤ 1000000) : PureF Tryz.prog A 5 [layD ss fs ls, .str tag] (tbD (scriptR ss tag)) := by
  have a1 := lay_noTup ss fs ls
  have a2 := lay_cells ss fs ls
  have a3 := lay_aggQ ss fs ls
  generalize hG : scriptR ss tag = G
  replace hG : Hid (G = orT (findT tag ss) (orT (findT dflt ss) noneT)) := hG.symm
  refine evF_inB (n := 30) (rs := [.cell 4 32, .tmp 5]) Tryz.func5 rfl rfl rfl rfl rfl rfl ?_
  repeat' (first | refine wz1 ?_ | refine wz2 ?_ | refine wz3 ?_ | refine wz4 ?_ | refine wz5 ?_ | refine wz6 ?_ | simp -dsimp (maxSteps:=999999) (disch:=omega) only[go_sem,simprocAttr, *] | ((first | refine wz8 (fun hh => ?_) (fun hh => ?_) | refine wz9 (fun hh => ?_) (fun hh => ?_) | refine wz7 (fun hh => ?_) (fun hh => ?_)) <;> (try replace hh := vqs hh) <;> (try (exfalso; first | exact hh | omega))))
  refine wpB_loop (fun e H => ∃ k : Nat, k ≤ 2 ∧ hget H 0 = .arr [layD ss fs ls] ∧ hget H 1 = .arr [.agg [.str [], .sl true []]] ∧ 2 ≤ H.length ∧ e 2 = .ptr 0 0 0 ∧ e 4 = .ptr 1 0 0 ∧ e 11 = .agg [.str tag, .str [68, 70, 76, 84]] ∧ e 12 = .int .i64 k ∧ G = (if k = 0 then orT (findT tag ss) (orT (findT dflt ss) noneT) else if k = 1 then orT (findT dflt ss) noneT else noneT)) (fun e H => 2 - natOf (e 12)) ?_ ?_
  · exact ⟨0, by omega, gs, gs, by simp, gs, gs, gs, gs, hG⟩
  clear hG
  rintro e H ⟨k, hk, h0, h1, hl, e2, e4, e11, e12, hG⟩ R hR
  have fin : k = 2 ∨ (∃ (w : List UInt8) (r : TL × Bool), (k = 0 ∧ w = tag ∧ r = orT (findT dflt ss) noneT ∨ k = 1 ∧ w = [68, 70, 76, 84] ∧ r = noneT) ∧ G = orT (findT w (ss.drop 0)) r) := by
    match k, hk, hG with
    | 0, _, hG => exact .inr ⟨_, _, .inl ⟨rfl, rfl, rfl⟩, hG⟩
    | 1, _, hG => exact .inr ⟨_, _, .inr ⟨rfl, rfl, rfl⟩, hG⟩
    | 2, _, _ => exact .inl rfl
  have nxt : ∀ r, (k = 0 ∧ r = orT (findT dflt ss) noneT ∨ k = 1 ∧ r = noneT) → G = r → G = (if k + 1 = 0 then orT (findT tag ss) (orT (findT dflt ss) noneT) else if k + 1 = 1 then orT (findT dflt ss) noneT else noneT) := by
    rintro r (⟨rfl, rfl⟩ | ⟨rfl, rfl⟩) hr <;> rw [hr] <;> rfl
  rcases fin with rfl | ⟨w, r, hw, hG2⟩
  · have : G = noneT := hG
    subst this
    clear hG nxt
    repeat' (first | refine wz1 ?_ | refine wz2 ?_ | refine wz3 ?_ | refine wz4 ?_ | refine wz5 ?_ | refine wz6 ?_ | simp -dsimp (maxSteps:=999999) (disch:=omega) only[go_sem,simprocAttr, *] | ((first | refine wz8 (fun hh => ?_) (fun hh => ?_) | refine wz9 (fun hh => ?_) (fun hh => ?_) | refine wz7 (fun hh => ?_) (fun hh => ?_)) <;> (try replace hh := vqs hh) <;> (try (exfalso; first | exact hh | omega))))
    exact outPure_strip rfl
  clear hG
  have e7s : ∃ kk : Int, kk = k ∧ (kk = 0 ∧ w = tag ∨ kk = 1 ∧ w = [68, 70, 76, 84]) := ⟨k, rfl, by rcases hw with ⟨rfl, rfl, _⟩ | ⟨rfl, rfl, _⟩ <;> simp⟩
  replace nxt := fun h => nxt r (by rcases hw with ⟨h1, _, h2⟩ | ⟨h1, _, h2⟩ <;> simp [h1, h2]) h
  replace hw : k < 2 := by rcases hw with ⟨h, _⟩ | ⟨h, _⟩ <;> omega
  obtain ⟨kk, hkk, hw2⟩ := e7s
  replace nxt := fun h => show Hid _ from nxt h
  rcases hw2 with ⟨hk0, rfl⟩ | ⟨hk0, rfl⟩
  rotate_left
  generalize hlit : ([68, 70, 76, 84] : List UInt8) = w at *
  rotate_left
  all_goals
    have hk1 := hkk.symm.trans hk0
    have hG3 : Hid (G = orT (findT w (ss.drop 0)) r) := hG2
    clear hG2
    repeat' (first | refine wz1 ?_ | refine wz2 ?_ | refine wz3 ?_ | refine wz4 ?_ | refine wz5 ?_ | refine wz6 ?_ | simp -dsimp (maxSteps:=999999) (disch:=omega) only[go_sem,simprocAttr, *] | ((first | refine wz8 (fun hh => ?_) (fun hh => ?_) | refine wz9 (fun hh => ?_) (fun hh => ?_) | refine wz7 (fun hh => ?_) (fun hh => ?_)) <;> (try replace hh := vqs hh) <;> (try (exfalso; first | exact hh | omega))))
    refine wpB_loop (fun e' H' => ∃ j : Nat, j ≤ ss.length ∧ hget H' 0 = .arr [layD ss fs ls] ∧ hget H' 1 = .arr [.agg [.str [], .sl true []]] ∧ 2 ≤ H'.length ∧ e' 2 = .ptr 0 0 0 ∧ e' 4 = .ptr 1 0 0 ∧ e' 7 = .str w ∧ e' 11 = e 11 ∧ e' 12 = .int .i64 k ∧ e' 16 = .sl false (ss.map tlD) ∧ e' 17 = .int .i64 ss.length ∧ e' 18 = .int .i64 j ∧ G = orT (findT w (ss.drop j)) r) (fun e H => ss.length - natOf (e 18)) ?_ ?_
    · exact ⟨0, by omega, gs, gs, by omega, gs, gs, gs, gs, gs, gs, gs, gs, hG3⟩
    have e12o := e12
    clear hG3 h0 h1 hl e2 e4 e12
    rintro e' H' ⟨j, hj, h0, h1, hl, e2, e4, e7, e11', e12, e16, e17, e18, hG⟩ R2 hR2
    by_cases hb : j < ss.length
    · have hx := tl_get hb
      rw [find_drop hb] at hG
      generalize ss[j] = x at hx hG
      replace hG : Hid (G = orT (if (x.1 == w) = true then some x else findT w (ss.drop (j + 1))) r) := hG
      have b1 := tl_noTup x
      have b2 := tl_cells x
      have b3 := tl_aggQ x
      have hse := fun (ob ob2 : Ob) => hget_set_eq (H := H' ++ [ob]) (r := 1) (ob := ob2) (by simp; omega)
      repeat' (first | refine wz1 ?_ | refine wz2 ?_ | refine wz3 ?_ | refine wz4 ?_ | refine wz5 ?_ | refine wz6 ?_ | simp -dsimp (maxSteps:=999999) (disch:=omega) only[go_sem,simprocAttr, *] | ((first | refine wz8 (fun hh => ?_) (fun hh => ?_) | refine wz9 (fun hh => ?_) (fun hh => ?_) | refine wz7 (fun hh => ?_) (fun hh => ?_)) <;> (try replace hh := vqs hh) <;> (try (exfalso; first | exact hh | omega))))
      · have : G = (x, true) := by rw [show G = _ from hG, if_pos (by simpa using hh)]; rfl
        rw [this]
        exact outPure_strip (strip_tb (x, true))
      · refine hR2 _ _ ⟨j + 1, by omega, gs, gs, by simp; omega, gs, gs, gs, gs, gs, gs, gs, gs, ?_⟩ ?_
        · rw [show G = _ from hG, if_neg (by simpa using hh)]
        · simp -dsimp (maxSteps:=999999) (disch:=omega) only[go_sem,simprocAttr, *,natOf_int]
    · rw [List.drop_eq_nil_of_le (by omega)] at hG
      have hGr := nxt hG
      clear hG nxt
      repeat' (first | refine wz1 ?_ | refine wz2 ?_ | refine wz3 ?_ | refine wz4 ?_ | refine wz5 ?_ | refine wz6 ?_ | simp -dsimp (maxSteps:=999999) (disch:=omega) only[go_sem,simprocAttr, *] | ((first | refine wz8 (fun hh => ?_) (fun hh => ?_) | refine wz9 (fun hh => ?_) (fun hh => ?_) | refine wz7 (fun hh => ?_) (fun hh => ?_)) <;> (try replace hh := vqs hh) <;> (try (exfalso; first | exact hh | omega))))
      refine hR _ _ ⟨k + 1, by omega, gs, gs, by omega, gs, gs, gs, gs, hGr⟩ ?_
      simp -dsimp (maxSteps:=999999) (disch:=omega) only[go_sem,simprocAttr, *,natOf_int]
end Go.Proofs.W
end
/- Layout tables: the script of a tag, in the document's words. -/
section
set_option maxHeartbeats 4000000
set_option linter.unusedVariables false
set_option linter.unusedSimpArgs false
namespace Go.Proofs.W
open Go Vm Go.Proofs.Zs14

/-- where a tag stands first -/
def idxZ (w : List UInt8) : List TL → Nat → Int
  | [], _ => -1
  | s :: l, i => if s.1 = w then (i : Int) else idxZ w l (i + 1)
theorem idx_find (w : List UInt8) : ∀ (l : List TL) (b : Nat), (idxZ w l b = -1 ∧ findT w l = none) ∨ ∃ i x, idxZ w l b = ((b + i : Nat) : Int) ∧ l[i]? = some x ∧ findT w l = some x
  | [], b => .inl ⟨rfl, rfl⟩
  | s :: l, b => by
    simp only [idxZ, findT]
    by_cases e : s.1 = w
    · rw [if_pos e, if_pos e]; exact .inr ⟨0, s, by simp, rfl, rfl⟩
    · rw [if_neg e, if_neg e]
      rcases idx_find w l (b + 1) with h | ⟨i, x, h1, h2, h3⟩
      · exact .inl h
      · exact .inr ⟨i + 1, x, by rw [h1]; congr 1; omega, by simpa using h2, h3⟩
theorem idx_drop {w : List UInt8} {l : List TL} {j : Nat} (h : j < l.length) : idxZ w (l.drop j) j = if (l[j].1 == w) = true then (j : Int) else idxZ w (l.drop (j + 1)) (j + 1) := by
  rw [List.drop_eq_getElem_cons h, idxZ]
  by_cases e : l[j].1 = w
  · rw [if_pos e, if_pos (by simpa using e)]
  · rw [if_neg e, if_neg (by simpa using e)]
theorem idx_app (w : List UInt8) (c : List TL) : ∀ (l : List TL) (b : Nat), idxZ w (l ++ c) b = if idxZ w l b < 0 then idxZ w c (b + l.length) else idxZ w l b
  | [], b => by simp [idxZ]
  | s :: l, b => by
    by_cases e : s.1 = w
    · have h1 : idxZ w (s :: l) b = b := if_pos e
      have h2 : idxZ w (s :: (l ++ c)) b = b := if_pos e
      rw [List.cons_append, h2, h1, if_neg (by omega)]
    · have h1 : idxZ w (s :: l) b = idxZ w l (b + 1) := if_neg e
      have h2 : idxZ w (s :: (l ++ c)) b = idxZ w (l ++ c) (b + 1) := if_neg e
      rw [List.cons_append, h2, h1, idx_app w c l (b + 1), List.length_cons, show b + 1 + l.length = b + (l.length + 1) by omega]
theorem idx_rng (w : List UInt8) (l : List TL) (b : Nat) : -1 ≤ idxZ w l b ∧ idxZ w l b < ((b + l.length : Nat) : Int) ∧ (0 ≤ idxZ w l b → (b : Int) ≤ idxZ w l b) := by
  rcases idx_find w l b with ⟨h, _⟩ | ⟨i, x, h1, h2, _⟩
  · rw [h]; omega
  · have := (List.getElem?_eq_some_iff.1 h2).1
    rw [h1]; omega
def finA (ss : List TL) (a : Int) : TL × Bool := if a < 0 then noneT else (ss.getD a.toNat ([], []), true)
theorem script_fin (ss : List TL) (tag : List UInt8) : scriptR ss tag = finA ss (if idxZ tag ss 0 < 0 then idxZ dflt ss 0 else idxZ tag ss 0) := by
  unfold scriptR
  rcases idx_find tag ss 0 with ⟨h1, h2⟩ | ⟨i, x, h1, h2, h3⟩
  · rw [h1, h2, if_pos (by omega)]
    rcases idx_find dflt ss 0 with ⟨g1, g2⟩ | ⟨i, x, g1, g2, g3⟩
    · rw [g1, g2]; rfl
    · rw [g1, g3, Nat.zero_add]
      simp [orT, finA, List.getD_eq_getElem?_getD, g2]
      intro h; omega
  · rw [h1, h3, if_neg (by omega), Nat.zero_add]
    simp [orT, finA, List.getD_eq_getElem?_getD, h2]
    intro h; omega
theorem refscript_ok (ss fs : List TL) (ls : List D) (tag : List UInt8) (hs : ss.length ≤ 1000000) : PureF Tryz.prog A 6 [layD ss fs ls, .str tag] (tbD (scriptR ss tag)) := by
  have a1 := lay_noTup ss fs ls
  have a2 := lay_cells ss fs ls
  have a3 := lay_aggQ ss fs ls
  rw [script_fin]
  generalize hG : finA ss (if idxZ tag ss 0 < 0 then idxZ dflt ss 0 else idxZ tag ss 0) = G
  replace hG : Hid (G = finA ss (if idxZ tag ss 0 < 0 then idxZ dflt ss 0 else idxZ tag ss 0)) := hG.symm
  refine evF_inB (n := 70) (rs := [.cell 4 32, .tmp 5]) Tryz.func6 rfl rfl rfl rfl rfl rfl ?_
  repeat' (first | refine wz1 ?_ | refine wz2 ?_ | refine wz3 ?_ | refine wz4 ?_ | refine wz5 ?_ | refine wz6 ?_ | simp -dsimp (maxSteps:=999999) (disch:=omega) only[go_sem,simprocAttr, *] | ((first | refine wz8 (fun hh => ?_) (fun hh => ?_) | refine wz9 (fun hh => ?_) (fun hh => ?_) | refine wz7 (fun hh => ?_) (fun hh => ?_)) <;> (try replace hh := vqs hh) <;> (try (exfalso; first | exact hh | omega))))
  refine wpB_loop (fun e H => ∃ j : Nat, j ≤ ss.length ∧ H = [Ob.arr [layD ss fs ls], Ob.arr [.agg [.str [], .sl true []]]] ∧ e 1 = .str tag ∧ e 2 = .ptr 0 0 0 ∧ e 4 = .ptr 1 0 0 ∧ e 6 = .int .i64 (idxZ dflt (ss.drop j) j) ∧ e 7 = .int .i64 ((j : Int) - 1)) (fun e H => (natOf (match e 7 with | .int k x => .int k (x + 1) | d => d))) ?_ ?_
  · exact ⟨ss.length, by omega, gs, gs, gs, gs, by rw [List.drop_eq_nil_of_le (by omega)]; simp -dsimp (maxSteps:=999999) (disch:=omega) only[go_sem,simprocAttr, *,idxZ], gs⟩
  rintro e H ⟨j, hj, rfl, e1, e2, e4, e6, e7⟩ R hR
  cases j with
  | succ j =>
    have hb : j < ss.length := by omega
    have e7' : e 7 = .int .i64 (j : Int) := by rw [e7]; congr 1; omega
    have hx := tl_get hb
    have hd := idx_drop (w := dflt) hb
    generalize ss[j] = x at hx hd
    have b1 := tl_noTup x
    have b2 := tl_cells x
    have b3 := tl_aggQ x
    clear e7 hG
    have hdf : dflt = [68, 70, 76, 84] := rfl
    cases hq : (x.1 == dflt) with
    | true =>
      rw [hq, if_pos rfl] at hd
      rw [hdf] at hq
      clear hdf
      repeat' (first | refine wz1 ?_ | refine wz2 ?_ | refine wz3 ?_ | refine wz4 ?_ | refine wz5 ?_ | refine wz6 ?_ | simp -dsimp (maxSteps:=999999) (disch:=omega) only[go_sem,simprocAttr, *] | ((first | refine wz8 (fun hh => ?_) (fun hh => ?_) | refine wz9 (fun hh => ?_) (fun hh => ?_) | refine wz7 (fun hh => ?_) (fun hh => ?_)) <;> (try replace hh := vqs hh) <;> (try (exfalso; first | exact hh | omega))))
      refine hR _ _ ⟨j, by omega, gs, gs, gs, gs, by rw [hd]; simp -dsimp (maxSteps:=999999) (disch:=omega) only[go_sem,simprocAttr, *], gs⟩ ?_
      simp -dsimp (maxSteps:=999999) (disch:=omega) only[go_sem,simprocAttr, *,natOf_int]
    | false =>
      rw [hq, if_neg (by decide)] at hd
      rw [hdf] at hq
      clear hdf
      repeat' (first | refine wz1 ?_ | refine wz2 ?_ | refine wz3 ?_ | refine wz4 ?_ | refine wz5 ?_ | refine wz6 ?_ | simp -dsimp (maxSteps:=999999) (disch:=omega) only[go_sem,simprocAttr, *] | ((first | refine wz8 (fun hh => ?_) (fun hh => ?_) | refine wz9 (fun hh => ?_) (fun hh => ?_) | refine wz7 (fun hh => ?_) (fun hh => ?_)) <;> (try replace hh := vqs hh) <;> (try (exfalso; first | exact hh | omega))))
      refine hR _ _ ⟨j, by omega, gs, gs, gs, gs, by rw [hd]; simp -dsimp (maxSteps:=999999) (disch:=omega) only[go_sem,simprocAttr, *], gs⟩ ?_
      simp -dsimp (maxSteps:=999999) (disch:=omega) only[go_sem,simprocAttr, *,natOf_int]
  | zero =>
    rw [List.drop_zero] at e6
    have hra := idx_rng dflt ss 0
    generalize hA : idxZ dflt ss 0 = a at *
    rw [Nat.zero_add] at hra
    repeat' (first | refine wz1 ?_ | refine wz2 ?_ | refine wz3 ?_ | refine wz4 ?_ | refine wz5 ?_ | refine wz6 ?_ | simp -dsimp (maxSteps:=999999) (disch:=omega) only[go_sem,simprocAttr, *] | ((first | refine wz8 (fun hh => ?_) (fun hh => ?_) | refine wz9 (fun hh => ?_) (fun hh => ?_) | refine wz7 (fun hh => ?_) (fun hh => ?_)) <;> (try replace hh := vqs hh) <;> (try (exfalso; first | exact hh | omega))))
    refine wpB_loop (fun e H => ∃ j : Nat, j ≤ ss.length ∧ H = [Ob.arr [layD ss fs ls], Ob.arr [.agg [.str [], .sl true []]]] ∧ e 1 = .str tag ∧ e 2 = .ptr 0 0 0 ∧ e 4 = .ptr 1 0 0 ∧ e 6 = .int .i64 a ∧ e 8 = .int .i64 ((j : Int) - 1) ∧ idxZ tag (ss.drop j) j = -1) (fun e H => (natOf (match e 8 with | .int k x => .int k (x + 1) | d => d))) ?_ ?_
    · exact ⟨ss.length, by omega, gs, gs, gs, gs, gs, gs, by rw [List.drop_eq_nil_of_le (by omega)]; rfl⟩
    clear hR e1 e2 e4 e6 e7
    rintro e H ⟨j, hj, rfl, e1, e2, e4, e6, e8, hno⟩ R hR
    cases j with
    | zero =>
      rw [List.drop_zero] at hno
      replace hG : G = finA ss a := by rw [show G = _ from hG, hno, if_pos (by omega)]
      clear hno
      by_cases hc : a < 0
      · rw [finA, if_pos hc] at hG
        rw [hG]
        clear hG
        repeat' (first | refine wz1 ?_ | refine wz2 ?_ | refine wz3 ?_ | refine wz4 ?_ | refine wz5 ?_ | refine wz6 ?_ | simp -dsimp (maxSteps:=999999) (disch:=omega) only[go_sem,simprocAttr, *] | ((first | refine wz8 (fun hh => ?_) (fun hh => ?_) | refine wz9 (fun hh => ?_) (fun hh => ?_) | refine wz7 (fun hh => ?_) (fun hh => ?_)) <;> (try replace hh := vqs hh) <;> (try (exfalso; first | exact hh | omega))))
        exact outPure_strip rfl
      · have hb : a.toNat < ss.length := by omega
        have hx := tl_get hb
        have hgx : ss.getD a.toNat ([], []) = ss[a.toNat] := by simp [List.getD_eq_getElem?_getD, hb]
        rw [finA, if_neg hc, hgx] at hG
        rw [hG]
        clear hG hgx
        generalize ss[a.toNat] = x at hx
        have b1 := tl_noTup x
        have b2 := tl_cells x
        have b3 := tl_aggQ x
        repeat' (first | refine wz1 ?_ | refine wz2 ?_ | refine wz3 ?_ | refine wz4 ?_ | refine wz5 ?_ | refine wz6 ?_ | simp -dsimp (maxSteps:=999999) (disch:=omega) only[go_sem,simprocAttr, *] | ((first | refine wz8 (fun hh => ?_) (fun hh => ?_) | refine wz9 (fun hh => ?_) (fun hh => ?_) | refine wz7 (fun hh => ?_) (fun hh => ?_)) <;> (try replace hh := vqs hh) <;> (try (exfalso; first | exact hh | omega))))
        exact outPure_strip (strip_tb (x, true))
    | succ j =>
      have hb : j < ss.length := by omega
      have e8' : e 8 = .int .i64 (j : Int) := by rw [e8]; congr 1; omega
      have hx := tl_get hb
      have hd := idx_drop (w := tag) hb
      have hall : idxZ tag ss 0 = if idxZ tag (ss.take j) 0 < 0 then idxZ tag (ss.drop j) j else idxZ tag (ss.take j) 0 := by
        conv => lhs; rw [← List.take_append_drop j ss]
        rw [idx_app, Nat.zero_add, List.length_take, Nat.min_eq_left (by omega)]
      generalize ss[j] = x at hx hd
      have b1 := tl_noTup x
      have b2 := tl_cells x
      have b3 := tl_aggQ x
      clear e8
      cases hq : (x.1 == tag) with
      | false =>
        rw [hq, if_neg (by decide), hno] at hd
        clear hall hG hno
        repeat' (first | refine wz1 ?_ | refine wz2 ?_ | refine wz3 ?_ | refine wz4 ?_ | refine wz5 ?_ | refine wz6 ?_ | simp -dsimp (maxSteps:=999999) (disch:=omega) only[go_sem,simprocAttr, *] | ((first | refine wz8 (fun hh => ?_) (fun hh => ?_) | refine wz9 (fun hh => ?_) (fun hh => ?_) | refine wz7 (fun hh => ?_) (fun hh => ?_)) <;> (try replace hh := vqs hh) <;> (try (exfalso; first | exact hh | omega))))
        refine hR _ _ ⟨j, by omega, gs, gs, gs, gs, gs, gs, hd⟩ ?_
        simp -dsimp (maxSteps:=999999) (disch:=omega) only[go_sem,simprocAttr, *,natOf_int]
      | true =>
        rw [hq, if_pos rfl] at hd
        rw [hd] at hall
        have hrk := fun k => idx_rng tag (ss.take k) 0
        replace hG : Hid (G = finA ss (if idxZ tag (ss.take j) 0 < 0 then (j : Int) else idxZ tag (ss.take j) 0)) := by
          show G = _
          rw [show G = _ from hG, hall]
          congr 1
          have := hrk j
          by_cases hc : idxZ tag (ss.take j) 0 < 0
          · rw [if_pos hc, if_neg (by omega)]
          · rw [if_neg hc, if_neg hc]
        clear hall hd hno hR hA hra
        repeat' (first | refine wz1 ?_ | refine wz2 ?_ | refine wz3 ?_ | refine wz4 ?_ | refine wz5 ?_ | refine wz6 ?_ | simp -dsimp (maxSteps:=999999) (disch:=omega) only[go_sem,simprocAttr, *] | ((first | refine wz8 (fun hh => ?_) (fun hh => ?_) | refine wz9 (fun hh => ?_) (fun hh => ?_) | refine wz7 (fun hh => ?_) (fun hh => ?_)) <;> (try replace hh := vqs hh) <;> (try (exfalso; first | exact hh | omega))))
        refine wpB_loop (fun e H => ∃ k : Nat, k ≤ j ∧ H = [Ob.arr [layD ss fs ls], Ob.arr [.agg [.str [], .sl true []]]] ∧ e 1 = .str tag ∧ e 2 = .ptr 0 0 0 ∧ e 4 = .ptr 1 0 0 ∧ e 6 = .int .i64 (if idxZ tag (ss.take k) 0 < 0 then (j : Int) else idxZ tag (ss.take k) 0) ∧ e 8 = .int .i64 j ∧ e 9 = .int .i64 k) (fun e H => j - natOf (e 9)) ?_ ?_
        · exact ⟨0, by omega, gs, gs, gs, gs, by rw [List.take_zero, show idxZ tag [] 0 = -1 from rfl, if_pos (by omega)]; simp -dsimp (maxSteps:=999999) (disch:=omega) only[go_sem,simprocAttr, *], gs, gs⟩
        clear e1 e2 e4 e6 e8'
        rintro e H ⟨k, hk, rfl, e1, e2, e4, e6, e8, e9⟩ R2 hR2
        by_cases hbk : k < j
        · have hbk2 : k < ss.length := by omega
          have hy := tl_get hbk2
          have htk : idxZ tag (ss.take (k + 1)) 0 = if idxZ tag (ss.take k) 0 < 0 then idxZ tag [ss[k]] k else idxZ tag (ss.take k) 0 := by
            rw [take_succ' hbk2, idx_app, Nat.zero_add, List.length_take, Nat.min_eq_left (by omega)]
          have hrk2 := hrk k
          rw [Nat.zero_add, List.length_take, Nat.min_eq_left (by omega)] at hrk2
          clear hG hrk
          generalize ss[k] = y at hy htk
          generalize idxZ tag (ss.take k) 0 = v0 at *
          have c1 := tl_noTup y
          have c2 := tl_cells y
          have c3 := tl_aggQ y
          have hy1 : idxZ tag [y] k = if (y.1 == tag) = true then (k : Int) else -1 := by
            rw [idxZ]
            by_cases e : y.1 = tag
            · rw [if_pos e, if_pos (by simpa using e)]
            · rw [if_neg e, if_neg (by simpa using e)]; rfl
          rw [hy1] at htk
          clear hy1
          by_cases hv : v0 < 0
          · rw [if_pos hv] at htk e6
            cases hqy : (y.1 == tag) with
            | true =>
              rw [hqy, if_pos rfl] at htk
              repeat' (first | refine wz1 ?_ | refine wz2 ?_ | refine wz3 ?_ | refine wz4 ?_ | refine wz5 ?_ | refine wz6 ?_ | simp -dsimp (maxSteps:=999999) (disch:=omega) only[go_sem,simprocAttr, *] | ((first | refine wz8 (fun hh => ?_) (fun hh => ?_) | refine wz9 (fun hh => ?_) (fun hh => ?_) | refine wz7 (fun hh => ?_) (fun hh => ?_)) <;> (try replace hh := vqs hh) <;> (try (exfalso; first | exact hh | omega))))
              refine hR2 _ _ ⟨k + 1, by omega, gs, gs, gs, gs, by rw [htk, if_neg (by omega)]; simp -dsimp (maxSteps:=999999) (disch:=omega) only[go_sem,simprocAttr, *], gs, gs⟩ ?_
              simp -dsimp (maxSteps:=999999) (disch:=omega) only[go_sem,simprocAttr, *,natOf_int]
            | false =>
              rw [hqy, if_neg (by decide)] at htk
              repeat' (first | refine wz1 ?_ | refine wz2 ?_ | refine wz3 ?_ | refine wz4 ?_ | refine wz5 ?_ | refine wz6 ?_ | simp -dsimp (maxSteps:=999999) (disch:=omega) only[go_sem,simprocAttr, *] | ((first | refine wz8 (fun hh => ?_) (fun hh => ?_) | refine wz9 (fun hh => ?_) (fun hh => ?_) | refine wz7 (fun hh => ?_) (fun hh => ?_)) <;> (try replace hh := vqs hh) <;> (try (exfalso; first | exact hh | omega))))
              refine hR2 _ _ ⟨k + 1, by omega, gs, gs, gs, gs, by rw [htk, if_pos (by omega)]; simp -dsimp (maxSteps:=999999) (disch:=omega) only[go_sem,simprocAttr, *], gs, gs⟩ ?_
              simp -dsimp (maxSteps:=999999) (disch:=omega) only[go_sem,simprocAttr, *,natOf_int]
          · rw [if_neg hv] at htk e6
            have hv2 : v0 < k := by omega
            cases hqy : (y.1 == tag) with
            | true =>
              repeat' (first | refine wz1 ?_ | refine wz2 ?_ | refine wz3 ?_ | refine wz4 ?_ | refine wz5 ?_ | refine wz6 ?_ | simp -dsimp (maxSteps:=999999) (disch:=omega) only[go_sem,simprocAttr, *] | ((first | refine wz8 (fun hh => ?_) (fun hh => ?_) | refine wz9 (fun hh => ?_) (fun hh => ?_) | refine wz7 (fun hh => ?_) (fun hh => ?_)) <;> (try replace hh := vqs hh) <;> (try (exfalso; first | exact hh | omega))))
              refine hR2 _ _ ⟨k + 1, by omega, gs, gs, gs, gs, by rw [htk, if_neg (by omega)]; simp -dsimp (maxSteps:=999999) (disch:=omega) only[go_sem,simprocAttr, *], gs, gs⟩ ?_
              simp -dsimp (maxSteps:=999999) (disch:=omega) only[go_sem,simprocAttr, *,natOf_int]
            | false =>
              repeat' (first | refine wz1 ?_ | refine wz2 ?_ | refine wz3 ?_ | refine wz4 ?_ | refine wz5 ?_ | refine wz6 ?_ | simp -dsimp (maxSteps:=999999) (disch:=omega) only[go_sem,simprocAttr, *] | ((first | refine wz8 (fun hh => ?_) (fun hh => ?_) | refine wz9 (fun hh => ?_) (fun hh => ?_) | refine wz7 (fun hh => ?_) (fun hh => ?_)) <;> (try replace hh := vqs hh) <;> (try (exfalso; first | exact hh | omega))))
              refine hR2 _ _ ⟨k + 1, by omega, gs, gs, gs, gs, by rw [htk, if_neg (by omega)]; simp -dsimp (maxSteps:=999999) (disch:=omega) only[go_sem,simprocAttr, *], gs, gs⟩ ?_
              simp -dsimp (maxSteps:=999999) (disch:=omega) only[go_sem,simprocAttr, *,natOf_int]
        · obtain rfl : k = j := by omega
          have hrk2 := hrk k
          rw [Nat.zero_add, List.length_take, Nat.min_eq_left (by omega)] at hrk2
          generalize hA : (if idxZ tag (ss.take k) 0 < 0 then (k : Int) else idxZ tag (ss.take k) 0) = a at *
          have ha0 : 0 ≤ a ∧ a < ss.length := by
            rw [← hA]
            split <;> omega
          have hb : a.toNat < ss.length := by omega
          have hz := tl_get hb
          have hgz : ss.getD a.toNat ([], []) = ss[a.toNat] := by simp [List.getD_eq_getElem?_getD, hb]
          replace hG : G = finA ss a := hG
          rw [finA, if_neg (by omega), hgz] at hG
          rw [hG]
          obtain ⟨a0, a00⟩ := ha0
          clear hG hgz hA hrk hrk2
          generalize ss[a.toNat] = z at hz
          have c1 := tl_noTup z
          have c2 := tl_cells z
          have c3 := tl_aggQ z
          repeat' (first | refine wz1 ?_ | refine wz2 ?_ | refine wz3 ?_ | refine wz4 ?_ | refine wz5 ?_ | refine wz6 ?_ | simp -dsimp (maxSteps:=999999) (disch:=omega) only[go_sem,simprocAttr, *] | ((first | refine wz8 (fun hh => ?_) (fun hh => ?_) | refine wz9 (fun hh => ?_) (fun hh => ?_) | refine wz7 (fun hh => ?_) (fun hh => ?_)) <;> (try replace hh := vqs hh) <;> (try (exfalso; first | exact hh | omega))))
          exact outPure_strip (strip_tb (z, true))
end Go.Proofs.W
end
