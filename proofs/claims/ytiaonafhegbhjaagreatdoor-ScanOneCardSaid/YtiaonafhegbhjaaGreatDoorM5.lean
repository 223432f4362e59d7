/- Texts that stand behind this claim, one after the other. -/
import Derived.Test.YtiaonafhegbhjaaGreatDoorM4
import Derived.Attr
set_option maxHeartbeats 4000000
set_option linter.unusedVariables false
set_option linter.unusedSimpArgs false
section
namespace Vm
open Go
theorem joJ {k : IntKind} {v : Int} {n : Nat} (h0 : 0 <= v) (h1 : v < (n : Int)) : inRange (.int k v) n = some v.toNat:=by simp [inRange,h0,h1]
theorem jut {a b : Nat} (h : a < b) : (a < b) = True:=by simp [h]
theorem jum {a b : Nat} (h : a <= b) : (a <= b) = True:=by simp [h]
theorem jsJ {a b : Int} (h : a < b) : (a < b) = True:=by simp [h]
theorem jrR {a b : Int} (h : a <= b) : (a <= b) = True:=by simp [h]
theorem jpp {a b : Nat} (h : b <= a) : (a < b) = False:=by simp;omega
theorem jqe {a b : Nat} (h : b < a) : (a <= b) = False:=by simp;omega
theorem jpZ {a b : Int} (h : b <= a) : (a < b) = False:=by simp;omega
theorem jp0 {a b : Int} (h : b < a) : (a <= b) = False:=by simp;omega
theorem jos {a b : Int} (h : ¬ a = b) : (a == b) = false:=by simp;omega
theorem jo1 {a b : Int} (h : ¬ a = b) : (a != b) = true:=by simp;omega
theorem jjO : mostBytes = 140737488355328:=rfl
theorem wi32 {n : Int} (h0 : -2147483648 <= n) (h1 : n < 2147483648) : IntKind.i32.wrap n = n:=by rw [IntKind.wrap_i32];omega
theorem wu8 {n : Int} (h0 : 0 <= n) (h1 : n < 256) : IntKind.u8.wrap n = n:=by rw [IntKind.wrap_u8];omega
theorem wu16 {n : Int} (h0 : 0 <= n) (h1 : n < 65536) : IntKind.u16.wrap n = n:=by simp [IntKind.wrap,IntKind.bits,IntKind.signed];omega
theorem wu32 {n : Int} (h0 : 0 <= n) (h1 : n < 4294967296) : IntKind.u32.wrap n = n:=by rw [IntKind.wrap_u32];omega
theorem wu64 {n : Int} (h0 : 0 <= n) (h1 : n < 18446744073709551616) : IntKind.u64.wrap n = n:=by simp [IntKind.wrap,IntKind.bits,IntKind.signed];omega
theorem getE? {α : Type} {l : List α} {i : Nat} (h : i < l.length) : l[i]? = some l[i]:=List.getElem?_eq_getElem h
theorem joL (b : Bool) : D.cells (.bool b : D) = [(.bool b : D)]:=rfl
theorem jnq (b : Bool) : noTup (.bool b : D) = true:=rfl
theorem jrA (b : Bool) : aggQ (.bool b : D) = false:=rfl
theorem jqx (k : IntKind) (n : Int) : D.cells (.int k n : D) = [(.int k n : D)]:=rfl
theorem jo3 (k : IntKind) (n : Int) : noTup (.int k n : D) = true:=rfl
theorem js7 (k : IntKind) (n : Int) : aggQ (.int k n : D) = false:=rfl
theorem jpP (s : List UInt8) : D.cells (.str s : D) = [(.str s : D)]:=rfl
theorem jp2 (s : List UInt8) : noTup (.str s : D) = true:=rfl
theorem jrP (s : List UInt8) : aggQ (.str s : D) = false:=rfl
theorem joF  : D.cells (.nilp : D) = [(.nilp : D)]:=rfl
theorem jnR  : noTup (.nilp : D) = true:=rfl
theorem jq4  : aggQ (.nilp : D) = false:=rfl
theorem jpw (r i j : Nat) : D.cells (.ptr r i j : D) = [(.ptr r i j : D)]:=rfl
theorem jpK (r i j : Nat) : noTup (.ptr r i j : D) = true:=rfl
theorem juq (r i j : Nat) : aggQ (.ptr r i j : D) = false:=rfl
theorem jqN (x : D) (j : Nat) : D.cells (.ept x j : D) = [(.ept x j : D)]:=rfl
theorem jqc (x : D) (j : Nat) : noTup (.ept x j : D) = true:=rfl
theorem jtI (x : D) (j : Nat) : aggQ (.ept x j : D) = false:=rfl
theorem jtT (f : Bool) (xs : List D) : D.cells (.sl f xs : D) = [(.sl f xs : D)]:=rfl
theorem jr8 (f : Bool) (xs : List D) : noTup (.sl f xs : D) = true:=rfl
theorem jv4 (f : Bool) (xs : List D) : aggQ (.sl f xs : D) = false:=rfl
theorem jrk (r o n : Nat) : D.cells (.vec r o n : D) = [(.vec r o n : D)]:=rfl
theorem jqF (r o n : Nat) : noTup (.vec r o n : D) = true:=rfl
theorem jrY (r o n : Nat) : aggQ (.vec r o n : D) = false:=rfl
theorem jpX (r : Nat) : D.cells (.map r : D) = [(.map r : D)]:=rfl
theorem jqs (r : Nat) : noTup (.map r : D) = true:=rfl
theorem jtR (r : Nat) : aggQ (.map r : D) = false:=rfl
theorem jny  : D.cells (.nilm : D) = [(.nilm : D)]:=rfl
theorem joR  : noTup (.nilm : D) = true:=rfl
theorem jpU  : aggQ (.nilm : D) = false:=rfl
theorem jsv (f : FuncId) (cs : List D) : D.cells (.fn f cs : D) = [(.fn f cs : D)]:=rfl
theorem jup (f : FuncId) (cs : List D) : noTup (.fn f cs : D) = true:=rfl
theorem juG (f : FuncId) (cs : List D) : aggQ (.fn f cs : D) = false:=rfl
theorem jnh  : D.cells (.niln : D) = [(.niln : D)]:=rfl
theorem joC  : noTup (.niln : D) = true:=rfl
theorem jpv  : aggQ (.niln : D) = false:=rfl
theorem jma (t : TypeId) (d : D) : D.cells (.iface t d : D) = [(.iface t d : D)]:=rfl
theorem jlm (t : TypeId) (d : D) : noTup (.iface t d : D) = true:=rfl
theorem jni (t : TypeId) (d : D) : aggQ (.iface t d : D) = false:=rfl
theorem joE  : D.cells (.nili : D) = [(.nili : D)]:=rfl
theorem jov  : noTup (.nili : D) = true:=rfl
theorem jqq  : aggQ (.nili : D) = false:=rfl
theorem jpI (l : List D) : D.cells (.agg l) = l:=rfl
theorem jqX (l : List D) : noTup (.agg l) = true:=rfl
theorem jts (l : List D) : aggQ (.agg l) = true:=rfl
attribute [go_sem] joL jnq jrA jqx jo3 js7 jpP jp2 jrP joF jnR jq4 jpw jpK juq jqN jqc jtI jtT jr8 jv4 jrk jqF jrY jpX jqs jtR jny joR jpU jsv jup juG jnh joC jpv jma jlm jni joE jov jqq jpI jqX jts
section
variable {P : Program} {H : Heap}
def partO (P : Program) (t : TypeId) (x : Option D) (j : Nat) : Option D:=x.bind fun x=>partE P t x j
theorem jnH {t : TypeId} {x : D} {j : Nat} : partO P t (some x) j = partE P t x j:=rfl
def loadO (P : Program) (t : TypeId) (o : Ob) (i j : Nat) : Option D:=
  match o with
  | .arr xs | .fro xs=>partO P t xs[i]? j
  | _=>none
theorem jrH {t : TypeId} {r i j : Nat} : loadD P t H (.ptr r i j) = loadO P t (hget H r) i j:=by
  unfold loadD loadO partO;rfl
theorem jpz {t : TypeId} {x : D} {j : Nat} : loadD P t H (.ept x j) = partE P t x j:=rfl
theorem jqw {t : TypeId} {xs : List D} {i j : Nat} : loadO P t (.arr xs) i j = partO P t xs[i]? j:=rfl
theorem jq7 {t : TypeId} {xs : List D} {i j : Nat} : loadO P t (.fro xs) i j = partO P t xs[i]? j:=rfl
def partG (n : Nat) (a : Bool) (cs : List D) (j : Nat) : Option D:=
  if j + n <= cs.length then (if a then some (.agg ((cs.drop j).take n)) else if n = 1 then cs[j]? else none) else none
def partF (n : Option Nat) (a : Option Bool) (x : D) (cs : List D) (q : Bool) (j : Nat) : Option D:=
  n.bind fun n=>a.bind fun a=>if j = 0 /\ cs.length = n /\ q = a then some x else partG n a cs j
theorem jtC {t : TypeId} {x : D} {j : Nat} : partE P t x j = partF (sizeT P t) (isAggT P t) x x.cells (aggQ x) j:=by
  unfold partE partF partD partG
  cases sizeT P t <;> cases isAggT P t <;> rfl
theorem joW {n : Nat} {a q : Bool} {x : D} {cs : List D} {j : Nat} : partF (some n) (some a) x cs q j = if j = 0 /\ cs.length = n /\ q = a then some x else partG n a cs j:=rfl
theorem jsY {t : TypeId} {cs : List D} {j : Nat} : partD P t cs j = (sizeT P t).bind fun n=>(isAggT P t).bind fun a=>partG n a cs j:=rfl
def setF (nt : Bool) (v : D) (vc : List D) (vq : Bool) (xc : List D) (xq : Bool) (j : Nat) : Option D:=
  if nt = false then none else if j = 0 /\ vc.length = xc.length /\ vq = xq then some v else if j + vc.length <= xc.length /\ xq then some (.agg (spliceL xc j vc)) else none
theorem juW {x v : D} {j : Nat} : setE x j v = setF (noTup v) v v.cells (aggQ v) x.cells (aggQ x) j:=rfl
theorem jpA {v : D} {vc : List D} {vq : Bool} {xc : List D} {xq : Bool} {j : Nat} : setF true v vc vq xc xq j = if j = 0 /\ vc.length = xc.length /\ vq = xq then some v else if j + vc.length <= xc.length /\ xq then some (.agg (spliceL xc j vc)) else none:=rfl
def storeQ (H : Heap) (r i : Nat) (xs : List D) (x : Option D) : Option Heap:=x.map fun x=>H.set r (.arr (xs.set i x))
theorem jl1 {r i : Nat} {xs : List D} {x : D} : storeQ H r i xs (some x) = some (H.set r (.arr (xs.set i x))):=rfl
def storeP (n : Option Nat) (vc : List D) (H : Heap) (r i j : Nat) (xs : List D) (x : Option D) (v : D) : Option Heap:=
  n.bind fun n=>if vc.length = n then x.bind fun x=>storeQ H r i xs (setE x j v) else none
theorem jsH {n : Nat} {x : Option Nat} : orS (some n) x = some n:=rfl
theorem js6 {x : Option Nat} : orS none x = x:=rfl
theorem jlX {n : Nat} {vc : List D} {r i j : Nat} {xs : List D} {x v : D} : storeP (some n) vc H r i j xs (some x) v = if vc.length = n then storeQ H r i xs (setE x j v) else none:=rfl
def storeO (P : Program) (t : TypeId) (H : Heap) (o : Ob) (r i j : Nat) (v : D) : Option Heap:=
  match o with
  | .arr xs=>storeP (orS (sizeT P t) (sizeZ P t)) v.cells H r i j xs xs[i]? v
  | _=>none
theorem joY {t : TypeId} {r i j : Nat} {v : D} : storeD P t H (.ptr r i j) v = storeO P t H (hget H r) r i j v:=by
  unfold storeD storeO storeP storeQ sizeS;rfl
theorem jnm {t : TypeId} {xs : List D} {r i j : Nat} {v : D} : storeO P t H (.arr xs) r i j v = storeP (orS (sizeT P t) (sizeZ P t)) v.cells H r i j xs xs[i]? v:=rfl
theorem jqa {r i j o : Nat} : moveP (.ptr r i j) o = some (.ptr r i (j + o)):=rfl
theorem jo8 {x : D} {j o : Nat} : moveP (.ept x j) o = some (.ept x (j + o)):=rfl
def iaT (y : Option D) (n : Nat) : Option D:=y.bind fun y=>if y.cells.length = n then some (.ept y 0) else none
theorem jrM {y : D} {n : Nat} : iaT (some y) n = if y.cells.length = n then some (.ept y 0) else none:=rfl
def iaS (k n : Option Nat) (xs : List D) : Option D:=k.bind fun k=>n.bind fun n=>iaT xs[k]? n
theorem jtH {k n : Nat} {xs : List D} : iaS (some k) (some n) xs = iaT xs[k]? n:=rfl
def iaV (k z : Option Nat) (H : Heap) (r o : Nat) : Option D:=k.bind fun k=>z.bind fun z=>if vecSize H r z then some (.ptr r (o + k) 0) else none
theorem jtS {k z r o : Nat} : iaV (some k) (some z) H r o = if vecSize H r z then some (.ptr r (o + k) 0) else none:=rfl
def iaA (k m : Option Nat) (x : D) : Option D:=k.bind fun k=>m.bind fun m=>moveP x (k * m)
theorem jtF {k m : Nat} {x : D} : iaA (some k) (some m) x = moveP x (k * m):=rfl
def iaU (P : Program) (u : Option TypeDesc) (H : Heap) (x i : D) : Option D:=
  match u with
  | some (.slice e)=>match x with
    | .sl _ xs=>iaS (inRange i xs.length) (sizeT P e) xs
    | .vec r o n=>iaV (inRange i n) (sizeT P e) H r o
    | _=>none
  | some (.array n e)=>iaA (inRange i n) (sizeT P e) x
  | _=>none
theorem jju {t : TypeId} {x i : D} : indexAddrD P t H x i = iaU P (P.underlying t) H x i:=by
  unfold indexAddrD iaU iaS iaV iaA iaT;rfl
theorem jwR {e : TypeId} {f : Bool} {xs : List D} {i : D} : iaU P (some (.slice e)) H (.sl f xs) i = iaS (inRange i xs.length) (sizeT P e) xs:=rfl
theorem jwr {e : TypeId} {r o n : Nat} {i : D} : iaU P (some (.slice e)) H (.vec r o n) i = iaV (inRange i n) (sizeT P e) H r o:=rfl
theorem juI {e : TypeId} {n : Nat} {x i : D} : iaU P (some (.array n e)) H x i = iaA (inRange i n) (sizeT P e) x:=rfl
def lenU (u : Option TypeDesc) (H : Heap) (x : D) : Option Nat:=
  match u,x with
  | some .string,.str s=>some s.length
  | some (.array n _),_=>some n
  | some (.slice _),.sl _ xs=>some xs.length
  | some (.slice _),.vec _ _ n=>some n
  | some (.map _ _),.nilm=>some 0
  | some (.map _ _),.map r=>match hget H r with
    | .map es=>some es.length
    | _=>none
  | _,_=>none
theorem ju1 {t : TypeId} {x : D} : lenD P t H x = lenU (P.underlying t) H x:=rfl
theorem jsj {s : List UInt8} : lenU (some .string) H (.str s) = some s.length:=rfl
theorem jth {n : Nat} {e : TypeId} {x : D} : lenU (some (.array n e)) H x = some n:=by cases x <;> rfl
theorem ju3 {e : TypeId} {f : Bool} {xs : List D} : lenU (some (.slice e)) H (.sl f xs) = some xs.length:=rfl
theorem jtK {e : TypeId} {r o n : Nat} : lenU (some (.slice e)) H (.vec r o n) = some n:=rfl
theorem jpJ {k e : TypeId} : lenU (some (.map k e)) H .nilm = some 0:=rfl
def lenB (n : Option Nat) (H : Heap) : Option (D × Heap):=n.map fun n=>(.int .i64 n,H)
theorem jqP {n : Nat} : lenB (some n) H = some (.int .i64 n,H):=rfl
theorem jln {t : TypeId} {x : D} : builtinD P .len [t] [x] H = lenB (lenD P t H x) H:=rfl
def appB (P : Program) (u : Option TypeDesc) (t : TypeId) (H : Heap) (s x : D) : Option (D × Heap):=
  match u with
  | some (.slice _) | some .string=>appendD P t H s x
  | _=>none
theorem jhP {t u : TypeId} {s x : D} : builtinD P .append [t,u] [s,x] H = appB P (P.underlying u) t H s x:=rfl
theorem jnG {e t : TypeId} {s x : D} : appB P (some (.slice e)) t H s x = appendD P t H s x:=rfl
theorem jlo {t : TypeId} {s x : D} : appB P (some .string) t H s x = appendD P t H s x:=rfl
theorem jlq {ts : List TypeId} {l : List D} : builtinD P .min ts l H = (fold1 minD l).map (·,H):=by cases ts <;> rfl
theorem jmo {ts : List TypeId} {l : List D} : builtinD P .max ts l H = (fold1 maxD l).map (·,H):=by cases ts <;> rfl
theorem jv1 {k : IntKind} {a b : Int} : fold1 minD [.int k a,.int k b] = some (.int k (if b < a then b else a)):=by simp [fold1,minD]
theorem jvd {k : IntKind} {a b : Int} : fold1 maxD [.int k a,.int k b] = some (.int k (if a < b then b else a)):=by simp [fold1,maxD]
theorem okD_s {d : D} : okD H (some d) = some (.ok d H):=rfl
theorem okH_s {d : D} {H' : Heap} : okH (some (d,H')) = some (.ok d H'):=rfl
theorem okU_s {H' : Heap} : okU (some H') = some (.ok ud H'):=rfl
theorem jrX {t : TypeId} {k : IntKind} {a b : Int} : binD P .add t (.int k a) (.int k b) = some (.int k (k.wrap (a + b))):=by simp [binD,intBin]
theorem juk {t : TypeId} {k : IntKind} {a b : Int} : binD P .sub t (.int k a) (.int k b) = some (.int k (k.wrap (a - b))):=by simp [binD,intBin]
theorem jsW {t : TypeId} {k : IntKind} {a b : Int} : binD P .mul t (.int k a) (.int k b) = some (.int k (k.wrap (a * b))):=by simp [binD,intBin]
theorem js3 {t : TypeId} {k : IntKind} {a b : Int} : binD P .and t (.int k a) (.int k b) = some (.int k (k.wrap (BitVec.ofInt k.bits a &&& BitVec.ofInt k.bits b).toNat)):=by simp [binD,intBin]
theorem jvf {t : TypeId} {k : IntKind} {a b : Int} : binD P .or t (.int k a) (.int k b) = some (.int k (k.wrap (BitVec.ofInt k.bits a ||| BitVec.ofInt k.bits b).toNat)):=by simp [binD,intBin]
theorem jr4 {t : TypeId} {k : IntKind} {a b : Int} : binD P .xor t (.int k a) (.int k b) = some (.int k (k.wrap (BitVec.ofInt k.bits a ^^^ BitVec.ofInt k.bits b).toNat)):=by simp [binD,intBin]
theorem jlG {t : TypeId} {k : IntKind} {a b : Int} : binD P .andNot t (.int k a) (.int k b) = some (.int k (k.wrap (BitVec.ofInt k.bits a &&& ~~~ BitVec.ofInt k.bits b).toNat)):=by simp [binD,intBin]
theorem jsb {t : TypeId} {k : IntKind} {a b : Int} : binD P .eql t (.int k a) (.int k b) = some (.bool (a == b)):=by simp [binD,intBin]
theorem jtt {t : TypeId} {k : IntKind} {a b : Int} : binD P .neq t (.int k a) (.int k b) = some (.bool (a != b)):=by simp [binD,intBin]
theorem jtv {t : TypeId} {k : IntKind} {a b : Int} : binD P .lss t (.int k a) (.int k b) = some (.bool (decide (a < b))):=by simp [binD,intBin]
theorem jsd {t : TypeId} {k : IntKind} {a b : Int} : binD P .leq t (.int k a) (.int k b) = some (.bool (decide (a <= b))):=by simp [binD,intBin]
theorem jud {t : TypeId} {k : IntKind} {a b : Int} : binD P .gtr t (.int k a) (.int k b) = some (.bool (decide (b < a))):=by simp [binD,intBin]
theorem jtO {t : TypeId} {k : IntKind} {a b : Int} : binD P .geq t (.int k a) (.int k b) = some (.bool (decide (b <= a))):=by simp [binD,intBin]
theorem jsu {t : TypeId} {k : IntKind} {a b : Int} : binD P .quo t (.int k a) (.int k b) = if b = 0 then none else some (.int k (k.wrap (a.tdiv b))):=by simp [binD,intBin]
theorem jst {t : TypeId} {k : IntKind} {a b : Int} : binD P .rem t (.int k a) (.int k b) = if b = 0 then none else some (.int k (a.tmod b)):=by simp [binD,intBin]
theorem jnp {o : BinOp} {t : TypeId} {a b : D} : binN false P o t a b = binD P o t a b:=rfl
theorem jrp {o : BinOp} {t : TypeId} {a b : D} : binN true P o t a b = nilCmp P o t a:=rfl
theorem jr6 {x : TypeId} : (some x : Option TypeId).isSome = true:=rfl
theorem jr7 {t : Tmp} : nilS (.tmp t) = false:=rfl
theorem jtm {k : IntKind} {n : Int} : nilS (.const (.int k n)) = false:=rfl
theorem jrL {s : ByteArray} : nilS (.const (.string s)) = false:=rfl
theorem jrG {b : Bool} : nilS (.const (.bool b)) = false:=rfl
theorem js8 : nilS (.const (.pointer none)) = false:=rfl
theorem jrD : nilS (.const .nilIface) = false:=rfl
theorem jph : nilS (.const .nilFunc) = false:=rfl
theorem jtA : nilS (.const (.map none)) = false:=rfl
theorem jt9 : nilS (.const (.slice none 0 0)) = true:=rfl
attribute [go_sem] jnp jrp jr7 jtm jrL jrG js8 jrD jph jtA jt9 nilCmp neverNil nilOp jr6
theorem jsh {t : TypeId} {k k2 : IntKind} {a b : Int} : binD P .shl t (.int k a) (.int k2 b) = if b < 0 then none else some (.int k (k.wrap (a * 2 ^ (min b.toNat k.bits)))):=rfl
theorem jug {t : TypeId} {k k2 : IntKind} {a b : Int} : binD P .shr t (.int k a) (.int k2 b) = if b < 0 then none else some (.int k (a.fdiv (2 ^ (min b.toNat k.bits)))):=rfl
theorem jt5 {o : BinOp} {t : TypeId} {a b : List UInt8} : binD P o t (.str a) (.str b) = strBin o a b:=rfl
theorem jmp {t : TypeId} {a b : Bool} : binD P .eql t (.bool a) (.bool b) = (eqD P t (.bool a) (.bool b)).map .bool:=rfl
theorem jl2 {t : TypeId} {a b : Bool} : binD P .neq t (.bool a) (.bool b) = (eqD P t (.bool a) (.bool b)).map fun b=>.bool (!b):=rfl
theorem jn0 {t : TypeId} {a b : List D} : binD P .eql t (.agg a) (.agg b) = (eqD P t (.agg a) (.agg b)).map .bool:=rfl
theorem jod {t : TypeId} {a b : List D} : binD P .neq t (.agg a) (.agg b) = (eqD P t (.agg a) (.agg b)).map fun b=>.bool (!b):=rfl
theorem jvj {k : IntKind} {n : Int} : unD .neg (.int k n) = some (.int k (k.wrap (0 - n))):=rfl
theorem jwl {b : Bool} : unD .not (.bool b) = some (.bool (!b)):=rfl
def convS (u : Option TypeDesc) (xs : Option (List D)) (H : Heap) : Option (D × Heap):=
  match u with
  | some (.int .u8)=>xs.bind fun xs=>(bytesBack xs).map fun s=>(.str s,H)
  | _=>none
theorem jsU {xs : List D} : convS (some (.int .u8)) (some xs) H = (bytesBack xs).map fun s=>(.str s,H):=rfl
def convU (P : Program) (a b : Option TypeDesc) (x : D) (H : Heap) : Option (D × Heap):=
  match a,b,x with
  | some (.int _),some (.int k),.int _ n=>some (.int k (k.wrap n),H)
  | some .string,some .string,.str s=>some (.str s,H)
  | some (.slice e),some .string,x=>convS (P.underlying e) (elems H x) H
  | some (.pointer t),some .unsafePointer,.ptr r i j=>match hget H r with
    | .arr xs=>(xs[i]?).bind fun x=>(x.cells[j]?).bind fun _=>(sizeT P t).map fun _=>(.ptr r i j,H)
    | _=>none
  | _,_,_=>none
def elemsO (ob : Ob) (o n : Nat) : Option (List D):=
  match ob with
  | .arr xs | .fro xs=>if o + n <= xs.length then some ((xs.drop o).take n) else none
  | _=>none
theorem jpV {r o n : Nat} : elems H (.vec r o n) = elemsO (hget H r) o n:=by
  unfold elems elemsO;rfl
theorem jub {f : Bool} {xs : List D} : elems H (.sl f xs) = some xs:=rfl
theorem jnD {xs : List D} {o n : Nat} : elemsO (.arr xs) o n = if o + n <= xs.length then some ((xs.drop o).take n) else none:=rfl
theorem jnT {xs : List D} {o n : Nat} : elemsO (.fro xs) o n = if o + n <= xs.length then some ((xs.drop o).take n) else none:=rfl
theorem jjA : bytesBack [] = some []:=rfl
theorem jhU {n : Int} {r : List D} : bytesBack (.int .u8 n :: r) = (bytesBack r).map (UInt8.ofNat n.toNat :: ·):=rfl
theorem jn8 {a b : List UInt8} (h : a.length + b.length < 4611686018427387904) : strBin .add a b = some (.str (a ++ b)):=by
  simp only [strBin];rw [if_pos (by omega)]
theorem jnM {a b : List UInt8} : strBin .eql a b = some (.bool (a == b)):=rfl
theorem jnU {a b : List UInt8} : strBin .neq a b = some (.bool (!(a == b))):=rfl
theorem jk0 {x : UInt8} {l : List UInt8} : ((x :: l : List UInt8) == []) = false:=rfl
theorem jki {x : UInt8} {l : List UInt8} : (([] : List UInt8) == x :: l) = false:=rfl
theorem jtV {s t : TypeId} {x : D} : convD P s t x H = convU P (P.underlying s) (P.underlying t) x H:=by
  unfold convD convU convS;rfl
theorem jmu {e : TypeId} {x : D} : convU P (some (.slice e)) (some .string) x H = convS (P.underlying e) (elems H x) H:=by cases x <;> rfl
theorem jrE {k k' l : IntKind} {n : Int} : convU P (some (.int l)) (some (.int k)) (.int k' n) H = some (.int k (k.wrap n),H):=rfl
theorem jpo {s : List UInt8} : convU P (some .string) (some .string) (.str s) H = some (.str s,H):=rfl
def sliceU (P : Program) (u : Option TypeDesc) (H : Heap) (x : D) (lo hi mx : Option D) : Option D:=
  match u,x,mx with
  | some .string,.str s,none=>(bound lo 0).bind fun l=>(bound hi s.length).bind fun h=>if l <= h /\ h <= s.length then some (.str ((s.take h).drop l)) else none
  | some (.slice e),.sl f xs,none=>(sizeT P e).bind fun n=>(bound lo 0).bind fun l=>(bound hi xs.length).bind fun h=>
      if l <= h /\ h <= xs.length /\ headSize n xs then some (.sl (f && h == xs.length) ((xs.take h).drop l)) else none
  | some (.slice e),.sl _ xs,some m=>(sizeT P e).bind fun n=>(bound lo 0).bind fun l=>(bound hi xs.length).bind fun h=>(bound (some m) 0).bind fun m=>
      if l <= h /\ h <= m /\ m <= xs.length /\ headSize n xs /\ hi.isSome then some (.sl (h == m) ((xs.take h).drop l)) else none
  | some (.slice e),.vec r o n,none=>(sizeT P e).bind fun z=>(bound lo 0).bind fun l=>(bound hi n).bind fun h=>
      if l <= h /\ h <= n /\ vecSize H r z then some (if l = h then .sl false [] else .vec r (o + l) (h - l)) else none
  | some (.slice e),.vec r o n,some m=>(sizeT P e).bind fun z=>(bound lo 0).bind fun l=>(bound hi n).bind fun h=>(bound (some m) 0).bind fun m=>
      if l = h /\ h = m /\ m <= n /\ vecSize H r z /\ hi.isSome then some (.sl true []) else none
  | _,_,_=>none
theorem jq1 {t : TypeId} {x : D} {lo hi mx : Option D} : sliceD P t H x lo hi mx = sliceU P (P.underlying t) H x lo hi mx:=rfl
def slS (lo hi : Option Nat) (s : List UInt8) : Option D:=lo.bind fun l=>hi.bind fun h=>if l <= h /\ h <= s.length then some (.str ((s.take h).drop l)) else none
theorem jtp {l h : Nat} {s : List UInt8} : slS (some l) (some h) s = if l <= h /\ h <= s.length then some (.str ((s.take h).drop l)) else none:=rfl
theorem jnA {s : List UInt8} {lo hi : Option D} : sliceU P (some .string) H (.str s) lo hi none = slS (bound lo 0) (bound hi s.length) s:=rfl
def slL (n lo hi : Option Nat) (f : Bool) (xs : List D) : Option D:=n.bind fun n=>lo.bind fun l=>hi.bind fun h=>if l <= h /\ h <= xs.length /\ headSize n xs then some (.sl (f && h == xs.length) ((xs.take h).drop l)) else none
theorem juy {n l h : Nat} {f : Bool} {xs : List D} : slL (some n) (some l) (some h) f xs = if l <= h /\ h <= xs.length /\ headSize n xs then some (.sl (f && h == xs.length) ((xs.take h).drop l)) else none:=rfl
theorem jpD {e : TypeId} {f : Bool} {xs : List D} {lo hi : Option D} : sliceU P (some (.slice e)) H (.sl f xs) lo hi none = slL (sizeT P e) (bound lo 0) (bound hi xs.length) f xs:=rfl
def slV (z lo hi : Option Nat) (H : Heap) (r o n : Nat) : Option D:=z.bind fun z=>lo.bind fun l=>hi.bind fun h=>if l <= h /\ h <= n /\ vecSize H r z then some (if l = h then .sl false [] else .vec r (o + l) (h - l)) else none
theorem jr9 {z l h r o n : Nat} : slV (some z) (some l) (some h) H r o n = if l <= h /\ h <= n /\ vecSize H r z then some (if l = h then .sl false [] else .vec r (o + l) (h - l)) else none:=rfl
theorem jnr {e : TypeId} {r o n : Nat} {lo hi : Option D} : sliceU P (some (.slice e)) H (.vec r o n) lo hi none = slV (sizeT P e) (bound lo 0) (bound hi n) H r o n:=rfl
theorem joH {n : Nat} : bound none n = some n:=rfl
theorem jpt {k : IntKind} {v : Int} {n : Nat} : bound (some (.int k v)) n = if 0 <= v then some v.toNat else none:=rfl
def ixA (k m : Option Nat) (P : Program) (e : TypeId) (cs : List D) : Option D:=k.bind fun k=>m.bind fun m=>partD P e cs (k * m)
theorem jrO {k m : Nat} {e : TypeId} {cs : List D} : ixA (some k) (some m) P e cs = partD P e cs (k * m):=rfl
def ixS (k : Option Nat) (s : List UInt8) : Option D:=k.bind fun k=>(s[k]?).map fun b=>.int .u8 b.toNat
def ixT (b : Option UInt8) : Option D:=b.map fun b=>.int .u8 b.toNat
theorem juC {k : Nat} {s : List UInt8} : ixS (some k) s = ixT s[k]?:=rfl
theorem jsT {b : UInt8} : ixT (some b) = some (.int .u8 b.toNat):=rfl
def ixU (P : Program) (u : Option TypeDesc) (x i : D) : Option D:=
  match u,x with
  | some (.array n e),.agg cs=>ixA (inRange i n) (sizeT P e) P e cs
  | some .string,.str s=>ixS (inRange i s.length) s
  | _,_=>none
theorem jrn {t : TypeId} {x i : D} : indexD P t x i = ixU P (P.underlying t) x i:=by
  unfold indexD ixU ixA ixS;rfl
theorem jvo {n : Nat} {e : TypeId} {cs : List D} {i : D} : ixU P (some (.array n e)) (.agg cs) i = ixA (inRange i n) (sizeT P e) P e cs:=rfl
theorem jvV {s : List UInt8} {i : D} : ixU P (some .string) (.str s) i = ixS (inRange i s.length) s:=rfl
end
attribute [go_sem low] getE? jpp jqe jpZ jp0 jut jum jsJ jrR jos jo1
attribute [go_sem] jnH jrH jpz jqw jq7 partG jtC joW jsY juW jpA jl1 jsH js6 jlX joY jnm jqa jo8 jrM jtH jtS jtF jju jwR jwr juI ju1 jsj jth ju3 jtK jpJ jqP jln jhP jnG jlo jlq jmo jv1 jvd okD_s okH_s okU_s jrX juk jsW js3 jvf jr4 jlG jsb jtt jtv jsd jud jtO jsu jst jsh jug jt5 jmp jl2 jn0 jod jvj jwl jtV jmu jsU jpV jub jn8 jnM jnU jk0 jki jnD jnT jjA jhU jrE jpo jq1 jtp jnA juy jpD jr9 jnr joH jpt jrO juC jsT jrn jvo jvV
attribute [go_sem] implies_true forall_const jaa jad joJ jjO wi64 wi32 wu8 wu16 wu32 wu64 jac Int.toNat_natCast_add_one Int.add_sub_cancel List.length_set
attribute [go_sem] stepOp deferC evalO evalOs evalOo partsD dstOk jrg jqJ jxQ jw6 ofV ofArgs List.getD_cons_zero List.getD_cons_succ List.getD_nil Option.map_some Option.map_none Option.bind_some Option.bind_none true_and and_true jrh jrz jr5 jsy jo4 jpB jto jtd jpq jsO juB
attribute [go_sem] decide_true decide_false Bool.false_eq_true eq_self if_false if_true resD jtf jl8 jk7 List.getElem?_toArray List.getElem?_cons_zero List.getElem?_cons_succ List.size_toArray List.length_cons List.length_nil newOb spliceL jap jgw jbQ joe juo jmP List.set_cons_zero List.set_cons_succ and_self
attribute [go_sem] List.length_map List.getElem?_map Int.natCast_nonneg Int.ofNat_lt Int.toNat_natCast List.append_nil List.nil_append List.cons_append List.drop_zero List.drop_succ_cons List.take_succ_cons List.take_zero Nat.zero_add Nat.add_zero Nat.zero_mul Int.toNat_zero Option.bind_eq_bind Option.pure_def gt_iff_lt ge_iff_le beq_true beq_false Bool.not_true Bool.not_false Bool.true_and Bool.false_and Bool.and_true Bool.and_false Bool.true_or Bool.false_or Bool.or_true Bool.or_false
attribute [go_sem] List.isEmpty_toArray List.isEmpty_nil List.isEmpty_cons List.all_nil List.all_cons beq_self_eq_true bne_self_eq_false Int.cast_ofNat_Int Nat.lt_irrefl Int.lt_irrefl Nat.le_refl Int.le_refl Nat.not_lt_zero Nat.zero_le List.map_nil List.map_cons
theorem jtN (k : Nat) : ((k : Int) + 2).toNat = k + 2:=by omega
theorem js2 (k : Nat) : ((k : Int) + 3).toNat = k + 3:=by omega
theorem jsg (k : Nat) : ((k : Int) + 4).toNat = k + 4:=by omega
theorem jrb (a b : Nat) : ((a : Int) + (b : Int)).toNat = a + b:=by omega
theorem jsB (k : Nat) : ((k : Int) - 1).toNat = k - 1:=by omega
theorem jqb (a b : Nat) : ((a : Int) - (b : Int)).toNat = a - b:=by omega
attribute [go_sem] jtN js2 jsg jrb jsB jqb false_and and_false or_false false_or or_true true_or not_true_eq_false not_false_eq_true List.getElem?_concat_length List.length_append Int.natCast_add Nat.add_sub_cancel
attribute [go_sem] fillD fillE buildSliceD List.replicate_succ List.replicate_zero assertD
def PP (p : Prop) : Prop:=p
theorem pp_eq {p : Prop} : PP p = p:=rfl
def wantV (x : D) (w : Bool) : Option Bool:=
  match x with
  | .bool b=>some (b == w)
  | _=>some false
theorem jsr {w : Bool} : wantV ud w = some false:=rfl
theorem jnf {b w : Bool} : wantV (.bool b) w = some (b == w):=rfl
def wantS (e : Env) (d : Option Nat) (w : Bool) : Option Bool:=
  match d with
  | some d=>wantV (e d) w
  | none=>some false
theorem jog {e : Env} {d : Nat} {w : Bool} : wantS e (some d) w = wantV (e d) w:=rfl
def slotL (l : List (Option Nat)) (j : Nat) : Option Nat:=
  match l,j with
  | [],_=>none
  | o :: _,0=>o
  | _ :: r,j + 1=>slotL r j
theorem jn1 {o : Option Nat} {r : List (Option Nat)} : slotL (o :: r) 0 = o:=rfl
theorem joq {o : Option Nat} {r : List (Option Nat)} {j : Nat} : slotL (o :: r) (j + 1) = slotL r j:=rfl
theorem jkV : ∀ (l : List Oper) (j : Nat),slotL (l.map (·.dst)) j = (l.toArray[j]?).bind (·.dst)
  | [],_=>by simp [slotL]
  | o :: _,0=>by simp [slotL]
  | o :: r,j + 1=>by
    have:=jkV r j
    simp only [List.map_cons,slotL,this]
    simp
def wantG (l : List (Option Nat)) (e : Env) (g : Option (Nat × Bool)) : Option Bool:=
  match g with
  | none=>some true
  | some (j,w)=>wantS e (slotL l j) w
theorem joc {l : List (Option Nat)} {e : Env} : wantG l e none = some true:=rfl
theorem joV {l : List (Option Nat)} {e : Env} {j : Nat} {w : Bool} : wantG l e (some (j,w)) = wantS e (slotL l j) w:=rfl
theorem jkm {l : List Oper} {e : Env} {o : Oper} : wantD l.toArray e o = wantG (l.map (·.dst)) e o.guard:=by
  unfold wantD wantG
  cases o.guard with
  | none=>rfl
  | some g=>
    obtain ⟨j,w⟩:=g
    simp only [jkV]
    cases (l.toArray[j]?).bind (·.dst) <;> rfl
abbrev TyP {α : Type} (_ : α) : Type:=Prop
section
variable {P : Program} {A : Ann} {N : Nat}
def WpB (P : Program) (A : Ann) (N : Nat) (c : Code) (e : Env) (H : Heap) (Q : Ex -> Env -> Heap -> Prop) : TyP (c,Q):=WpC P A N c e H Q
def EvB (P : Program) (A : Ann) (f : FuncId) (args : List D) (H : Heap) (K Kp : D -> Heap -> Prop) : TyP (K,Kp):=EvC P A f args H K Kp
def EvFB (P : Program) (A : Ann) (f : FuncId) (args : List D) (H : Heap) (K Kp : D -> Heap -> Prop) : TyP (K,Kp):=EvF P A f args H K Kp
theorem jxo {c : Code} {e : Env} {H : Heap} {Q : Ex -> Env -> Heap -> Prop} : WpC P A N c e H Q = WpB P A N c e H Q:=rfl
theorem jkB {f : FuncId} {args : List D} {H : Heap} {K Kp : D -> Heap -> Prop} : EvC P A f args H K Kp = EvB P A f args H K Kp:=rfl
def outB (x : Option R) (K Kp : D -> Heap -> Prop) : TyP (K,Kp):=
  match x with
  | some (.ok d H')=>K d H'
  | some (.pan d H')=>Kp d H'
  | none=>False
theorem jmE {d : D} {H : Heap} {K Kp : D -> Heap -> Prop} : @Eq Prop (outB (some (.ok d H)) K Kp) (K d H):=rfl
theorem jkZ {d : D} {H : Heap} {K Kp : D -> Heap -> Prop} : @Eq Prop (outB (some (.pan d H)) K Kp) (Kp d H):=rfl
theorem jiN {K Kp : D -> Heap -> Prop} : @Eq Prop (outB none K Kp) (False):=rfl
def callB (P : Program) (A : Ann) (args : Option (List D)) (f : Option D) (H : Heap) (K Kp : D -> Heap -> Prop) : TyP (K,Kp):=
  match args,f with
  | some args,some (.fn g cs)=>EvC P A g (args ++ cs) H K Kp
  | some args,some (.bfn g cs)=>EvC P A g (cs ++ args) H K Kp
  | some args,some (.yld r)=>EvF P A (P.funcs.size + r) args H K Kp
  | _,_=>False
theorem jpx {args cs : List D} {g : FuncId} {H : Heap} {K Kp : D -> Heap -> Prop} : @Eq Prop (callB P A (some args) (some (.bfn g cs)) H K Kp) (EvB P A g (cs ++ args) H K Kp):=rfl
theorem jsK {args cs : List D} {g : FuncId} {H : Heap} {K Kp : D -> Heap -> Prop} : @Eq Prop (callB P A (some args) (some (.fn g cs)) H K Kp) (EvB P A g (args ++ cs) H K Kp):=rfl
theorem jpG {args : List D} {r : Nat} {H : Heap} {K Kp : D -> Heap -> Prop} : @Eq Prop (callB P A (some args) (some (.yld r)) H K Kp) (EvFB P A (P.funcs.size + r) args H K Kp):=rfl
def vOpB (P : Program) (A : Ann) (o : Op) (e : Env) (H : Heap) (K Kp : D -> Heap -> Prop) : TyP (K,Kp):=vOp P A o e H K Kp
theorem jiw {f : Operand} {args : Array Operand} {ts : Array TypeId} {e : Env} {H : Heap} {K Kp : D -> Heap -> Prop} : @Eq Prop (vOpB P A (.call ⟨.value f,args,ts⟩) e H K Kp) (callB P A (evalOs e args.toList) (evalO e f) H K Kp):=by
  show (match evalOs e args.toList,evalO e f with
    | some args,some (.fn g cs)=>EvC P A g (args ++ cs) H K Kp
    | some args,some (.bfn g cs)=>EvC P A g (cs ++ args) H K Kp
    | some args,some (.yld r)=>EvF P A (P.funcs.size + r) args H K Kp
    | _,_=>False) = _
  unfold callB
  generalize evalOs e args.toList = a
  generalize evalO e f = b
  cases a <;> cases b <;> rfl
theorem jqS (x : Operand) {e : Env} {H : Heap} {K Kp : D -> Heap -> Prop} : @Eq Prop (vOpB P A (.move x) e H K Kp) (outB (stepOp P A noCall (.move x) e H) K Kp):=rfl
theorem jlv (x : Operand) {e : Env} {H : Heap} {K Kp : D -> Heap -> Prop} : @Eq Prop (vOpB P A (.assign x) e H K Kp) (outB (stepOp P A noCall (.assign x) e H) K Kp):=rfl
theorem jpr (x y z : Operand) {e : Env} {H : Heap} {K Kp : D -> Heap -> Prop} : @Eq Prop (vOpB P A (.pick x y z) e H K Kp) (outB (stepOp P A noCall (.pick x y z) e H) K Kp):=rfl
theorem joO (t : TypeId) {e : Env} {H : Heap} {K Kp : D -> Heap -> Prop} : @Eq Prop (vOpB P A (.alloc t) e H K Kp) (outB (stepOp P A noCall (.alloc t) e H) K Kp):=rfl
theorem jsQ (t : TypeId) (x : Operand) {e : Env} {H : Heap} {K Kp : D -> Heap -> Prop} : @Eq Prop (vOpB P A (.box t x) e H K Kp) (outB (stepOp P A noCall (.box t x) e H) K Kp):=rfl
theorem jnb (t : TypeId) (ps : Array (Nat × Operand)) {e : Env} {H : Heap} {K Kp : D -> Heap -> Prop} : @Eq Prop (vOpB P A (.build t ps) e H K Kp) (outB (stepOp P A noCall (.build t ps) e H) K Kp):=rfl
theorem jg1 (t : TypeId) (n : Nat) (ps : Array (Nat × Operand)) {e : Env} {H : Heap} {K Kp : D -> Heap -> Prop} : @Eq Prop (vOpB P A (.buildSlice t n ps) e H K Kp) (outB (stepOp P A noCall (.buildSlice t n ps) e H) K Kp):=rfl
theorem jq8 (t : TypeId) (x : Operand) {e : Env} {H : Heap} {K Kp : D -> Heap -> Prop} : @Eq Prop (vOpB P A (.load t x) e H K Kp) (outB (stepOp P A noCall (.load t x) e H) K Kp):=rfl
theorem jnC (t : TypeId) (x y : Operand) {e : Env} {H : Heap} {K Kp : D -> Heap -> Prop} : @Eq Prop (vOpB P A (.store t x y) e H K Kp) (outB (stepOp P A noCall (.store t x y) e H) K Kp):=rfl
theorem jjk (x : Operand) {e : Env} {H : Heap} {K Kp : D -> Heap -> Prop} : @Eq Prop (vOpB P A (.nilCheck x) e H K Kp) (outB (stepOp P A noCall (.nilCheck x) e H) K Kp):=rfl
theorem jnX (o : BinOp) (t : TypeId) (x y : Operand) (s : TypeId) {e : Env} {H : Heap} {K Kp : D -> Heap -> Prop} : @Eq Prop (vOpB P A (.binOp o t x y s) e H K Kp) (outB (stepOp P A noCall (.binOp o t x y s) e H) K Kp):=rfl
theorem jqu (o : UnOp) (t : TypeId) (x : Operand) {e : Env} {H : Heap} {K Kp : D -> Heap -> Prop} : @Eq Prop (vOpB P A (.unOp o t x) e H K Kp) (outB (stepOp P A noCall (.unOp o t x) e H) K Kp):=rfl
theorem jkI (s t : TypeId) (x : Operand) {e : Env} {H : Heap} {K Kp : D -> Heap -> Prop} : @Eq Prop (vOpB P A (.convert s t x) e H K Kp) (outB (stepOp P A noCall (.convert s t x) e H) K Kp):=rfl
theorem jeO (t : TypeId) (x : Operand) {e : Env} {H : Heap} {K Kp : D -> Heap -> Prop} : @Eq Prop (vOpB P A (.makeInterface t x) e H K Kp) (outB (stepOp P A noCall (.makeInterface t x) e H) K Kp):=rfl
theorem jjy (f : Fn) (x y : Array Operand) {e : Env} {H : Heap} {K Kp : D -> Heap -> Prop} : @Eq Prop (vOpB P A (.makeFunc f x y) e H K Kp) (outB (stepOp P A noCall (.makeFunc f x y) e H) K Kp):=rfl
theorem jkN (t : TypeId) (r : Option Operand) {e : Env} {H : Heap} {K Kp : D -> Heap -> Prop} : @Eq Prop (vOpB P A (.makeMap t r) e H K Kp) (outB (stepOp P A noCall (.makeMap t r) e H) K Kp):=rfl
theorem jh3 (t : TypeId) (x y : Operand) {e : Env} {H : Heap} {K Kp : D -> Heap -> Prop} : @Eq Prop (vOpB P A (.makeSlice t x y) e H K Kp) (outB (stepOp P A noCall (.makeSlice t x y) e H) K Kp):=rfl
theorem joX (t : TypeId) (x : Operand) (l h m : Option Operand) {e : Env} {H : Heap} {K Kp : D -> Heap -> Prop} : @Eq Prop (vOpB P A (.slice t x l h m) e H K Kp) (outB (stepOp P A noCall (.slice t x l h m) e H) K Kp):=rfl
theorem jhZ (t : TypeId) (x : Operand) (f : Nat) {e : Env} {H : Heap} {K Kp : D -> Heap -> Prop} : @Eq Prop (vOpB P A (.fieldAddr t x f) e H K Kp) (outB (stepOp P A noCall (.fieldAddr t x f) e H) K Kp):=rfl
theorem joI (t : TypeId) (x : Operand) (f : Nat) {e : Env} {H : Heap} {K Kp : D -> Heap -> Prop} : @Eq Prop (vOpB P A (.field t x f) e H K Kp) (outB (stepOp P A noCall (.field t x f) e H) K Kp):=rfl
theorem jh8 (t : TypeId) (x y : Operand) {e : Env} {H : Heap} {K Kp : D -> Heap -> Prop} : @Eq Prop (vOpB P A (.indexAddr t x y) e H K Kp) (outB (stepOp P A noCall (.indexAddr t x y) e H) K Kp):=rfl
theorem jno (t : TypeId) (x y : Operand) {e : Env} {H : Heap} {K Kp : D -> Heap -> Prop} : @Eq Prop (vOpB P A (.index t x y) e H K Kp) (outB (stepOp P A noCall (.index t x y) e H) K Kp):=rfl
theorem jmc (t : TypeId) (x y : Operand) (b : Bool) {e : Env} {H : Heap} {K Kp : D -> Heap -> Prop} : @Eq Prop (vOpB P A (.lookup t x y b) e H K Kp) (outB (stepOp P A noCall (.lookup t x y b) e H) K Kp):=rfl
theorem jh9 (t : TypeId) (x y z : Operand) {e : Env} {H : Heap} {K Kp : D -> Heap -> Prop} : @Eq Prop (vOpB P A (.mapUpdate t x y z) e H K Kp) (outB (stepOp P A noCall (.mapUpdate t x y z) e H) K Kp):=rfl
theorem jhq (x : Operand) (s t : TypeId) (b : Bool) {e : Env} {H : Heap} {K Kp : D -> Heap -> Prop} : @Eq Prop (vOpB P A (.typeAssert x s t b) e H K Kp) (outB (stepOp P A noCall (.typeAssert x s t b) e H) K Kp):=rfl
theorem jla (x : Operand) (i : Nat) {e : Env} {H : Heap} {K Kp : D -> Heap -> Prop} : @Eq Prop (vOpB P A (.extract x i) e H K Kp) (outB (stepOp P A noCall (.extract x i) e H) K Kp):=rfl
theorem jnK (x : Operand) {e : Env} {H : Heap} {K Kp : D -> Heap -> Prop} : @Eq Prop (vOpB P A (.panic x) e H K Kp) (outB (stepOp P A noCall (.panic x) e H) K Kp):=rfl
theorem jkb (b : Builtin) (args : Array Operand) (ts : Array TypeId) {e : Env} {H : Heap} {K Kp : D -> Heap -> Prop} : @Eq Prop (vOpB P A (.call ⟨.builtin b,args,ts⟩) e H K Kp) (outB (stepOp P A noCall (.call ⟨.builtin b,args,ts⟩) e H) K Kp):=rfl
def vOpZB (P : Program) (A : Ann) (o : Op) (e : Env) (H : Heap) (K : D -> Heap -> Prop) : TyP K:=vOpZ P A o e H K
theorem jnx (x : Operand) {e : Env} {H : Heap} {K : D -> Heap -> Prop} : @Eq Prop (vOpZB P A (.move x) e H K) (vOpB P A (.move x) e H K (fun _ _=>False)):=rfl
theorem jkl (x : Operand) {e : Env} {H : Heap} {K : D -> Heap -> Prop} : @Eq Prop (vOpZB P A (.assign x) e H K) (vOpB P A (.assign x) e H K (fun _ _=>False)):=rfl
theorem joS (x y z : Operand) {e : Env} {H : Heap} {K : D -> Heap -> Prop} : @Eq Prop (vOpZB P A (.pick x y z) e H K) (vOpB P A (.pick x y z) e H K (fun _ _=>False)):=rfl
theorem jlr (t : TypeId) {e : Env} {H : Heap} {K : D -> Heap -> Prop} : @Eq Prop (vOpZB P A (.alloc t) e H K) (vOpB P A (.alloc t) e H K (fun _ _=>False)):=rfl
theorem jrt (t : TypeId) (x : Operand) {e : Env} {H : Heap} {K : D -> Heap -> Prop} : @Eq Prop (vOpZB P A (.box t x) e H K) (vOpB P A (.box t x) e H K (fun _ _=>False)):=rfl
theorem job (t : TypeId) (x : Operand) {e : Env} {H : Heap} {K : D -> Heap -> Prop} : @Eq Prop (vOpZB P A (.load t x) e H K) (vOpB P A (.load t x) e H K (fun _ _=>False)):=rfl
theorem jlZ (t : TypeId) (x y : Operand) {e : Env} {H : Heap} {K : D -> Heap -> Prop} : @Eq Prop (vOpZB P A (.store t x y) e H K) (vOpB P A (.store t x y) e H K (fun _ _=>False)):=rfl
theorem jhN (x : Operand) {e : Env} {H : Heap} {K : D -> Heap -> Prop} : @Eq Prop (vOpZB P A (.nilCheck x) e H K) (vOpB P A (.nilCheck x) e H K (fun _ _=>False)):=rfl
theorem jmr (o : BinOp) (t : TypeId) (x y : Operand) (s : TypeId) {e : Env} {H : Heap} {K : D -> Heap -> Prop} : @Eq Prop (vOpZB P A (.binOp o t x y s) e H K) (vOpB P A (.binOp o t x y s) e H K (fun _ _=>False)):=rfl
theorem jnt (o : UnOp) (t : TypeId) (x : Operand) {e : Env} {H : Heap} {K : D -> Heap -> Prop} : @Eq Prop (vOpZB P A (.unOp o t x) e H K) (vOpB P A (.unOp o t x) e H K (fun _ _=>False)):=rfl
theorem jjj (s t : TypeId) (x : Operand) {e : Env} {H : Heap} {K : D -> Heap -> Prop} : @Eq Prop (vOpZB P A (.convert s t x) e H K) (vOpB P A (.convert s t x) e H K (fun _ _=>False)):=rfl
theorem jeD (t : TypeId) (x : Operand) {e : Env} {H : Heap} {K : D -> Heap -> Prop} : @Eq Prop (vOpZB P A (.makeInterface t x) e H K) (vOpB P A (.makeInterface t x) e H K (fun _ _=>False)):=rfl
theorem jhK (f : Fn) (x y : Array Operand) {e : Env} {H : Heap} {K : D -> Heap -> Prop} : @Eq Prop (vOpZB P A (.makeFunc f x y) e H K) (vOpB P A (.makeFunc f x y) e H K (fun _ _=>False)):=rfl
theorem jjE (t : TypeId) (r : Option Operand) {e : Env} {H : Heap} {K : D -> Heap -> Prop} : @Eq Prop (vOpZB P A (.makeMap t r) e H K) (vOpB P A (.makeMap t r) e H K (fun _ _=>False)):=rfl
theorem jht (t : TypeId) (x y : Operand) {e : Env} {H : Heap} {K : D -> Heap -> Prop} : @Eq Prop (vOpZB P A (.makeSlice t x y) e H K) (vOpB P A (.makeSlice t x y) e H K (fun _ _=>False)):=rfl
theorem jlM (t : TypeId) (x : Operand) (l h m : Option Operand) {e : Env} {H : Heap} {K : D -> Heap -> Prop} : @Eq Prop (vOpZB P A (.slice t x l h m) e H K) (vOpB P A (.slice t x l h m) e H K (fun _ _=>False)):=rfl
theorem jgY (t : TypeId) (x : Operand) (f : Nat) {e : Env} {H : Heap} {K : D -> Heap -> Prop} : @Eq Prop (vOpZB P A (.fieldAddr t x f) e H K) (vOpB P A (.fieldAddr t x f) e H K (fun _ _=>False)):=rfl
theorem jlH (t : TypeId) (x : Operand) (f : Nat) {e : Env} {H : Heap} {K : D -> Heap -> Prop} : @Eq Prop (vOpZB P A (.field t x f) e H K) (vOpB P A (.field t x f) e H K (fun _ _=>False)):=rfl
theorem jhJ (t : TypeId) (x y : Operand) {e : Env} {H : Heap} {K : D -> Heap -> Prop} : @Eq Prop (vOpZB P A (.indexAddr t x y) e H K) (vOpB P A (.indexAddr t x y) e H K (fun _ _=>False)):=rfl
theorem jl9 (t : TypeId) (x y : Operand) {e : Env} {H : Heap} {K : D -> Heap -> Prop} : @Eq Prop (vOpZB P A (.index t x y) e H K) (vOpB P A (.index t x y) e H K (fun _ _=>False)):=rfl
theorem jj8 (t : TypeId) (x y : Operand) (b : Bool) {e : Env} {H : Heap} {K : D -> Heap -> Prop} : @Eq Prop (vOpZB P A (.lookup t x y b) e H K) (vOpB P A (.lookup t x y b) e H K (fun _ _=>False)):=rfl
theorem jhh (t : TypeId) (x y z : Operand) {e : Env} {H : Heap} {K : D -> Heap -> Prop} : @Eq Prop (vOpZB P A (.mapUpdate t x y z) e H K) (vOpB P A (.mapUpdate t x y z) e H K (fun _ _=>False)):=rfl
theorem jgG (x : Operand) (s t : TypeId) (b : Bool) {e : Env} {H : Heap} {K : D -> Heap -> Prop} : @Eq Prop (vOpZB P A (.typeAssert x s t b) e H K) (vOpB P A (.typeAssert x s t b) e H K (fun _ _=>False)):=rfl
theorem jjn (x : Operand) (i : Nat) {e : Env} {H : Heap} {K : D -> Heap -> Prop} : @Eq Prop (vOpZB P A (.extract x i) e H K) (vOpB P A (.extract x i) e H K (fun _ _=>False)):=rfl
theorem jlS (x : Operand) {e : Env} {H : Heap} {K : D -> Heap -> Prop} : @Eq Prop (vOpZB P A (.panic x) e H K) (vOpB P A (.panic x) e H K (fun _ _=>False)):=rfl
theorem jhm (c : Call) {e : Env} {H : Heap} {K : D -> Heap -> Prop} : @Eq Prop (vOpZB P A (.call c) e H K) (vOpB P A (.call c) e H K (fun _ _=>False)):=rfl
def zB (b : Bool) (P : Program) (A : Ann) (t : TypeId) (n : Nat) (ps : Array (Nat × Operand)) (e : Env) (H : Heap) (K : D -> Heap -> Prop) : TyP K:=
  if b then outB ((partsD e ps.toList).bind fun l=>(stripP l).bind fun l=>fzR (buildSliceD P t n l []) H) K (fun _ _=>False) else vOpB P A (.buildSlice t n ps) e H K (fun _ _=>False)
theorem jvt {t : TypeId} {n : Nat} {ps : Array (Nat × Operand)} {e : Env} {H : Heap} {K : D -> Heap -> Prop} : @Eq Prop (zB true P A t n ps e H K) (outB ((partsD e ps.toList).bind fun l=>(stripP l).bind fun l=>fzR (buildSliceD P t n l []) H) K (fun _ _=>False)):=rfl
theorem js5 {t : TypeId} {n : Nat} {ps : Array (Nat × Operand)} {e : Env} {H : Heap} {K : D -> Heap -> Prop} : @Eq Prop (zB false P A t n ps e H K) (vOpB P A (.buildSlice t n ps) e H K (fun _ _=>False)):=rfl
theorem jgH (t : TypeId) (n : Nat) (ps : Array (Nat × Operand)) {e : Env} {H : Heap} {K : D -> Heap -> Prop} : @Eq Prop (vOpZB P A (.buildSlice t n ps) e H K) (zB (A.fz t) P A t n ps e H K):=by
  show (if A.fz t then (match (partsD e ps.toList).bind fun l=>(stripP l).bind fun l=>fzR (buildSliceD P t n l []) H with
    | some (.ok d H')=>K d H'
    | _=>False) else vOp P A (.buildSlice t n ps) e H K (fun _ _=>False)) = zB (A.fz t) P A t n ps e H K
  generalize A.fz t = b
  cases b with
  | false=>rfl
  | true=>
    show (match (partsD e ps.toList).bind fun l=>(stripP l).bind fun l=>fzR (buildSliceD P t n l []) H with
    | some (.ok d H')=>K d H'
    | _=>False) = outB ((partsD e ps.toList).bind fun l=>(stripP l).bind fun l=>fzR (buildSliceD P t n l []) H) K (fun _ _=>False)
    generalize ((partsD e ps.toList).bind fun l=>(stripP l).bind fun l=>fzR (buildSliceD P t n l []) H) = x
    cases x with
    | none=>rfl
    | some r=>cases r <;> rfl
def fzN (b : Prop) [Decidable b] (ys : Option (List D)) (H : Heap) : Option R:=if b then ys.map fun ys=>.ok (.sl false ys) H else none
theorem jwq {n : Nat} {xs : List D} {H : Heap} : fzR (some (.vec 0 0 n,[.arr xs])) H = fzN (n = xs.length) (stripL xs) H:=rfl
theorem jox : stripP [] = some []:=rfl
theorem jlR {i : Nat} {d : D} {r : List (Nat × D)} : stripP ((i,d) :: r) = (strip d).bind fun d'=>(stripP r).map ((i,d') :: ·):=rfl
end
section
variable {P : Program} {A : Ann} {N : Nat} {S : List (Option Nat)} {o : Oper} {rest : List Oper} {e : Env} {H : Heap} {K : Env -> Heap -> Prop} {Kp : D -> Env -> Heap -> Prop}
def vOpsC (P : Program) (A : Ann) (N : Nat) (S : List (Option Nat)) : List Oper -> Env -> Heap -> (Env -> Heap -> Prop) -> (D -> Env -> Heap -> Prop) -> Prop
  | [],e,H,K,_=>K e H
  | o :: rest,e,H,K,Kp=>dstOk N o.dst = true /\ match wantG S e o.guard with
    | some true=>match deferC o.op with
      | some c=>match pushD P e c with
        | some e'=>vOpsC P A N S rest (putO e' o.dst ud) H K Kp
        | none=>False
      | none=>vOp P A o.op e H (fun d H'=>vOpsC P A N S rest (putO e o.dst d) H' K Kp) (fun d H'=>Kp d e H')
    | some false=>vOpsC P A N S rest (putO e o.dst ud) H K Kp
    | none=>False
theorem jkA {all : List Oper} : ∀ {l : List Oper} {e : Env} {H : Heap},vOpsC P A N (all.map (·.dst)) l e H K Kp = vOps P A N all.toArray l e H K Kp
  | [],e,H=>rfl
  | o :: l,e,H=>by
    have ih : ∀ e H,vOpsC P A N (all.map (·.dst)) l e H K Kp = vOps P A N all.toArray l e H K Kp:=fun e H=>jkA
    simp only [vOpsC,vOps,jkm,ih]
    generalize wantG (all.map (·.dst)) e o.guard = w
    cases w with
    | none=>rfl
    | some b=>
      cases b with
      | false=>rfl
      | true=>
        cases deferC o.op with
        | none=>rfl
        | some c=>cases hp : pushD P e c <;> rfl
def vOpsB (P : Program) (A : Ann) (N : Nat) (S : List (Option Nat)) (l : List Oper) (e : Env) (H : Heap) (K : Env -> Heap -> Prop) (Kp : D -> Env -> Heap -> Prop) : TyP (S,l,K,Kp):=vOpsC P A N S l e H K Kp
def stepsB (w : Option Bool) (dc : Option Call) (P : Program) (A : Ann) (N : Nat) (S : List (Option Nat)) (o : Oper) (rest : List Oper) (e : Env) (H : Heap) (K : Env -> Heap -> Prop) (Kp : D -> Env -> Heap -> Prop) : TyP (S,o,rest,K,Kp):=
  match w with
  | some true=>match dc with
    | some c=>match pushD P e c with
      | some e'=>vOpsC P A N S rest (putO e' o.dst ud) H K Kp
      | none=>False
    | none=>vOp P A o.op e H (fun d H'=>vOpsC P A N S rest (putO e o.dst d) H' K Kp) (fun d H'=>Kp d e H')
  | some false=>vOpsC P A N S rest (putO e o.dst ud) H K Kp
  | none=>False
theorem jij : @Eq Prop (vOpsB P A N S [] e H K Kp) (K e H):=rfl
theorem jgX : @Eq Prop (vOpsB P A N S (o :: rest) e H K Kp) (dstOk N o.dst = true /\ stepsB (wantG S e o.guard) (deferC o.op) P A N S o rest e H K Kp):=rfl
theorem jhk : @Eq Prop (stepsB (some true) none P A N S o rest e H K Kp) (vOpB P A o.op e H (fun d H'=>vOpsB P A N S rest (putO e o.dst d) H' K Kp) (fun d H'=>Kp d e H')):=rfl
theorem jf2 {dc : Option Call} : @Eq Prop (stepsB (some false) dc P A N S o rest e H K Kp) (vOpsB P A N S rest (putO e o.dst ud) H K Kp):=rfl
def pushB (x : Option Env) (P : Program) (A : Ann) (N : Nat) (S : List (Option Nat)) (o : Oper) (rest : List Oper) (H : Heap) (K : Env -> Heap -> Prop) (Kp : D -> Env -> Heap -> Prop) : TyP (S,o,rest,K,Kp):=
  match x with
  | some e'=>vOpsC P A N S rest (putO e' o.dst ud) H K Kp
  | none=>False
theorem je6 {c : Call} : @Eq Prop (stepsB (some true) (some c) P A N S o rest e H K Kp) (pushB (pushD P e c) P A N S o rest H K Kp):=rfl
theorem jhw {e' : Env} : @Eq Prop (pushB (some e') P A N S o rest H K Kp) (vOpsB P A N S rest (putO e' o.dst ud) H K Kp):=rfl
def neN (x y : Nat) : Prop:=x ≠ y
theorem juw {x y : Nat} (h : x ≠ y) : neN x y = True:=eq_true h
def disQ (x : Nat) : List Nat -> Prop
  | []=>True
  | y :: ys=>neN x y /\ disQ x ys
def disP : List Nat -> List Nat -> Prop
  | [],_=>True
  | x :: xs,ys=>disQ x ys /\ disP xs ys
def pairsP (e : Env) : List (List Nat × List Nat) -> Prop
  | []=>True
  | p :: r=>disP (objsE e p.1) (objsE e p.2) /\ pairsP e r
theorem jtk {x : Nat} : disQ x [] = True:=rfl
theorem jqV {x y : Nat} {ys : List Nat} : disQ x (y :: ys) = (neN x y /\ disQ x ys):=rfl
theorem juh {ys : List Nat} : disP [] ys = True:=rfl
theorem jqK {x : Nat} {xs ys : List Nat} : disP (x :: xs) ys = (disQ x ys /\ disP xs ys):=rfl
theorem jnB : pairsP e [] = True:=rfl
theorem jmg {a b : List Nat} {r : List (List Nat × List Nat)} : pairsP e ((a,b) :: r) = (disP (objsE e a) (objsE e b) /\ pairsP e r):=rfl
theorem jqW : objsE e [] = []:=rfl
theorem jnv {t : Nat} {l : List Nat} : objsE e (t :: l) = objsD (e t) ++ objsE e l:=rfl
theorem jkn {x : Nat} : ∀ {ys : List Nat},disQ x ys ↔ ∀ y ∈ ys,x ≠ y
  | []=>by simp [disQ]
  | y :: ys=>by simp [disQ,neN,jkn]
theorem disP_iff : ∀ {xs ys : List Nat},disP xs ys ↔ ∀ x ∈ xs,∀ y ∈ ys,x ≠ y
  | [],ys=>by simp [disP]
  | x :: xs,ys=>by simp [disP,jkn,disP_iff]
theorem jhz : ∀ {prs : List (List Nat × List Nat)},pairsP e prs ↔ prs.all (disjE e) = true
  | []=>by simp [pairsP]
  | p :: r=>by
    simp only [pairsP,List.all_cons,Bool.and_eq_true,disP_iff,jhz,disjE,List.all_eq_true,bne_iff_ne]
theorem jrj {r i j : Nat} : objsD (.ptr r i j) = [r]:=rfl
theorem jru {r i j : Nat} : objsD (.vec r i j) = [r]:=rfl
theorem jp4 {r : Nat} : objsD (.map r) = [r]:=rfl
theorem joN {b : Bool} : objsD (.bool b) = []:=rfl
theorem jrx {k : IntKind} {n : Int} : objsD (.int k n) = []:=rfl
theorem jra {s : List UInt8} : objsD (.str s) = []:=rfl
theorem jnO : objsD .nilp = []:=rfl
theorem jq0 {x : D} {j : Nat} : objsD (.ept x j) = []:=rfl
theorem jtu {f : Bool} {xs : List D} : objsD (.sl f xs) = []:=rfl
theorem joZ : objsD .nilm = []:=rfl
theorem jqO {l : List D} : objsD (.agg l) = []:=rfl
theorem jry {l : List D} : objsD (.tup l) = []:=rfl
theorem joK : objsD .nili = []:=rfl
theorem joi : objsD .niln = []:=rfl
theorem js4 : objsD ud = []:=rfl
theorem jkJ {x y : D} : appPlain H [x,y] = plainEl H y:=rfl
def plainM (xs : Option (List D)) : Bool:=(xs.bind stripL).isSome
theorem jlE {s : List UInt8} : plainEl H (.str s) = true:=rfl
theorem jnd {f : Bool} {xs : List D} : plainEl H (.sl f xs) = (stripL xs).isSome:=rfl
theorem jmh {r o n : Nat} : plainEl H (.vec r o n) = plainM (elems H (.vec r o n)):=rfl
theorem jmf {xs : List D} : plainM (some xs) = (stripL xs).isSome:=rfl
def vOpsXC (P : Program) (A : Ann) (N : Nat) (S : List (Option Nat)) (prs : List (List Nat × List Nat)) : List Oper -> Env -> Heap -> (Env -> Heap -> Prop) -> Prop
  | [],e,H,K=>pairsP e prs /\ K e H
  | o :: rest,e,H,K=>dstOk N o.dst = true /\ match wantG S e o.guard with
    | some true=>vOpX A o.op e H (fun _ _=>True) /\ vOpZ P A o.op e H (fun d H'=>vOpsXC P A N S prs rest (putO e o.dst d) H' K)
    | some false=>vOpsXC P A N S prs rest (putO e o.dst ud) H K
    | none=>False
theorem jiM {all : List Oper} : ∀ {l : List Oper} {e : Env} {H : Heap},vOpsXC P A N (all.map (·.dst)) (pairsD A all.toArray) l e H K = vOpsX P A N all.toArray l e H K
  | [],e,H=>by simp only [vOpsXC,vOpsX,jhz]
  | o :: l,e,H=>by
    have ih : ∀ e H,vOpsXC P A N (all.map (·.dst)) (pairsD A all.toArray) l e H K = vOpsX P A N all.toArray l e H K:=fun e H=>jiM
    simp only [vOpsXC,vOpsX,jkm,ih]
    generalize wantG (all.map (·.dst)) e o.guard = w
    cases w with
    | none=>rfl
    | some b=>cases b <;> rfl
def vOpsXB (P : Program) (A : Ann) (N : Nat) (S : List (Option Nat)) (prs : List (List Nat × List Nat)) (l : List Oper) (e : Env) (H : Heap) (K : Env -> Heap -> Prop) : TyP (S,prs,l,K):=vOpsXC P A N S prs l e H K
def stepsXB (w : Option Bool) (P : Program) (A : Ann) (N : Nat) (S : List (Option Nat)) (prs : List (List Nat × List Nat)) (o : Oper) (rest : List Oper) (e : Env) (H : Heap) (K : Env -> Heap -> Prop) : TyP (S,prs,o,rest,K):=
  match w with
  | some true=>vOpX A o.op e H (fun _ _=>True) /\ vOpZ P A o.op e H (fun d H'=>vOpsXC P A N S prs rest (putO e o.dst d) H' K)
  | some false=>vOpsXC P A N S prs rest (putO e o.dst ud) H K
  | none=>False
theorem jhl {prs : List (List Nat × List Nat)} : @Eq Prop (vOpsXB P A N S prs [] e H K) (pairsP e prs /\ K e H):=rfl
theorem jfS {prs : List (List Nat × List Nat)} : @Eq Prop (vOpsXB P A N S prs (o :: rest) e H K) ((dstOk N o.dst = true /\ stepsXB (wantG S e o.guard) P A N S prs o rest e H K)):=rfl
def plainX (A : Ann) (o : Op) (e : Env) (H : Heap) : Prop:=
  match o with
  | .call c=>match c.callee with
    | .value (.func f)=>match evalOs e c.args.toList with
      | some args=>(pureC A f || freshC A f) = true -> (stripL args).isSome = true
      | none=>False
    | .builtin .append=>match evalOs e c.args.toList with
      | some args=>appPlain H args = true
      | none=>False
    | _=>True
  | _=>True
theorem jiV {o : Op} {e : Env} {H : Heap} : @Eq Prop (vOpX A o e H (fun _ _=>True)) (plainX A o e H):=by
  cases o <;> try rfl
  rename_i c
  obtain ⟨cl,as,ts⟩:=c
  cases cl with
  | value f=>
    cases f <;> try rfl
    rename_i g
    show (match evalOs e as.toList with
      | some args=>(pureC A g || freshC A g) = true -> (stripL args).isSome = true /\ True
      | none=>False) = (match evalOs e as.toList with
      | some args=>(pureC A g || freshC A g) = true -> (stripL args).isSome = true
      | none=>False)
    cases evalOs e as.toList <;> simp
  | builtin b=>cases b <;> rfl
  | invoke x y=>rfl
theorem jgi {prs : List (List Nat × List Nat)} : @Eq Prop (stepsXB (some true) P A N S prs o rest e H K) ((plainX A o.op e H /\ vOpZB P A o.op e H (fun d H'=>vOpsXB P A N S prs rest (putO e o.dst d) H' K))):=by
  unfold stepsXB
  simp only [jiV]
  rfl
theorem jfd {prs : List (List Nat × List Nat)} : @Eq Prop (stepsXB (some false) P A N S prs o rest e H K) (vOpsXB P A N S prs rest (putO e o.dst ud) H K):=rfl
end
section
variable {P : Program} {A : Ann} {N : Nat}
theorem jls {id : Nat} {l : List Oper} {S : List (Option Nat)} {e : Env} {H : Heap} {Q : Ex -> Env -> Heap -> Prop} (hS : l.map (·.dst) = S) (h : vOpsB P A N S l e H (fun e H=>Q .norm e H) (fun d e H=>Q (.pan d) e H)) : WpB P A N (.region id l.toArray false) e H Q:=by
  subst hS
  have h' : vOps P A N l.toArray l e H (fun e H=>Q .norm e H) (fun d e H=>Q (.pan d) e H):=by rw [<- jkA];exact h
  exact jm7 (by simpa using h')
theorem jao {id : Nat} {l : List Oper} {S : List (Option Nat)} {e : Env} {H : Heap} {Q : Ex -> Env -> Heap -> Prop} (hl : lexD A l.toArray = true) {prs : List (List Nat × List Nat)} (hS : l.map (·.dst) = S) (hp : pairsD A l.toArray = prs) (h : vOpsXB P A N S prs l e H (fun e H=>Q .norm e H)) : WpB P A N (.region id l.toArray true) e H Q:=by
  subst hS hp
  have h' : vOpsX P A N l.toArray l e H (fun e H=>Q .norm e H):=by rw [<- jiM];exact h
  exact jlI hl (by simpa using h')
theorem jvF {a b : Code} {e : Env} {H : Heap} {Q : Ex -> Env -> Heap -> Prop} (h : WpB P A N a e H (SeqQ (fun e H=>WpB P A N b e H Q) Q)) : WpB P A N (.seq a b) e H Q:=jmZ h
theorem jpy {id : Nat} {b : Code} {e : Env} {H : Heap} {Q : Ex -> Env -> Heap -> Prop} (h : WpB P A N b e H (BlkQ id (fun e H=>Q .norm e H) Q)) : WpB P A N (.block id b) e H Q:=jrI h
theorem jqR {b : Code} {e : Env} {H : Heap} {Q : Ex -> Env -> Heap -> Prop} (h : WpB P A N b e H Q) : WpB P A N (.scope b) e H Q:=jpT h
theorem jus {e : Env} {H : Heap} {Q : Ex -> Env -> Heap -> Prop} (h : Q .norm e H) : WpB P A N .skip e H Q:=jtq h
theorem jt8 {id : Nat} {e : Env} {H : Heap} {Q : Ex -> Env -> Heap -> Prop} (h : Q (.exit id) e H) : WpB P A N (.exit id) e H Q:=jt6 h
theorem jwp {e : Env} {H : Heap} {Q : Ex -> Env -> Heap -> Prop} (h : Q .ret e H) : WpB P A N .ret e H Q:=jvy h
theorem jak {c : Operand} {x y : Code} {b : Bool} {e : Env} {H : Heap} {Q : Ex -> Env -> Heap -> Prop} (hc : evalO e c = some (.bool b)) (ht : b = true -> WpB P A N x e H Q) (hf : b = false -> WpB P A N y e H Q) : WpB P A N (.cond c x y) e H Q:=jta hc ht hf
theorem jae {e : Env} {H : Heap} {Q : Ex -> Env -> Heap -> Prop} {b : Code} (I : Env -> Heap -> Prop) (μ : Env -> Heap -> Nat) (h0 : I e H) (hstep : ∀ e H,I e H -> ∀ R : Env -> Heap -> Prop,(∀ e' H',I e' H' -> μ e' H' < μ e H -> R e' H') -> WpB P A N b e H (SeqQ R Q)) : WpB P A N (.loop b) e H Q:=
  jtW I μ h0 fun e H hI=>hstep e H hI _ fun e' H' h1 h2=>⟨h1,h2⟩
theorem jvZ {e : Env} {H : Heap} {Q : Ex -> Env -> Heap -> Prop} {a b : Code} (I : Env -> Heap -> Prop) (h : ∀ R : Env -> Heap -> Prop,(∀ e' H',I e' H' -> R e' H') -> WpB P A N a e H (SeqQ R Q)) (k : ∀ e H,I e H -> WpB P A N b e H Q) : WpB P A N (.seq a b) e H Q:=
  jvS I (h _ fun e' H' h=>h) k
theorem jaj {f : FuncId} {fn : Func} {c : Code} {n : Nat} {rs : List ResultVar} {args : List D} {H : Heap} {K Kp : D -> Heap -> Prop} (hf : P.funcs[f]? = some fn) (hb : fn.body = some c) (hn : (fn.name == "runtime.NumGoroutine") = false) (hN : fn.ntmps = n) (hr : fn.results.toList = rs) (hc : calmC c = true) (ha : Nat.ble args.length n = true)
    (h : WpB P A n c (ofArgs args) H (RetQ P rs K Kp)) : EvF P A f args H K Kp:=jxn hf hb hn hN hr hc ha h
theorem jng {f : FuncId} {fn : Func} {c : Code} {n : Nat} {rs : List ResultVar} {args : List D} {H : Heap} {K Kp : D -> Heap -> Prop} (hf : P.funcs[f]? = some fn) (hb : fn.body = some c) (hn : (fn.name == "runtime.NumGoroutine") = false) (hN : fn.ntmps = n) (hr : fn.results.toList = rs) (ha : Nat.ble args.length n = true)
    (h : WpB P A n c (ofArgs args) H (LeaveQ P A rs K Kp)) : EvF P A f args H K Kp:=jiO hf hb hn hN hr ha h
theorem jag {f : FuncId} {args : List D} {H : Heap} {K Kp K' Kp' : D -> Heap -> Prop} (hb : bodied P f = true) (hp : primQ A f = false) (hm : A.mode f = .state) (h : EvF P A f args H K' Kp') (h1 : ∀ d H',K' d H' -> PP (K d H')) (h2 : ∀ d H',Kp' d H' -> PP (Kp d H')) : EvB P A f args H K Kp:=jro hb hp hm (h.mono h1 h2)
theorem jal {f : FuncId} {args : List D} {d : D} {H : Heap} {K Kp : D -> Heap -> Prop} (hb : bodied P f = true) (hp : primQ A f = false) (hm : A.mode f = .pure) (ha : stripL args = some args) (h : PureF P A f args d) (k : PP (K d H)) : EvB P A f args H K Kp:=jqm hb hp hm ha h k
theorem jtb {f : FuncId} {args as : List D} {d : D} {H H' : Heap} {K Kp : D -> Heap -> Prop} (hb : bodied P f = true) (hp : primQ A f = false) (hm : A.mode f = .pure) (ha : pures H args = some (as,H')) (h : PureF P A f as d) (k : PP (K d (if flat d then H else H'))) : EvB P A f args H K Kp:=jjK hb hp hm ha h k
theorem jdp {f : FuncId} {args : List D} {d : D} {H H' : Heap} {p : List D -> Heap -> Option R} {K Kp : D -> Heap -> Prop} (hb : bodied P f = true) (hp : A.prim f = some p) (h : p args H = some (.ok d H')) (k : PP (K d H')) (h0 : A.rd f = none:=by rfl) : EvB P A f args H K Kp:=
  ⟨0,.ok d H',by simp only [callD,hb,Bool.true_eq_false,if_false,h0,hp];exact h,k⟩
theorem jfh {f : FuncId} {args : List D} {d : D} {H : Heap} {g : List D -> List Ob -> Option D} {K Kp : D -> Heap -> Prop} (hb : bodied P f = true) (hp : A.rd f = some g) (h : g args ((args.flatMap objsD).map (hget H)) = some d) (k : PP (K d H)) : EvB P A f args H K Kp:=
  ⟨0,.ok d H,by simp only [callD,hb,Bool.true_eq_false,if_false,hp,rdD,h];rfl,k⟩
end
attribute [irreducible] pairsP disP disQ neN plainM
attribute [go_sem] jtk jqV juh jqK jnB jmg jqW jnv jrj jru jp4 joN jrx jra jnO jq0 jtu joZ jqO jry joK joi js4 juw jkJ jlE jnd jmh jmf
attribute [irreducible] zB vOpZB WpB EvB EvFB vOpsB vOpsXB vOpB outB callB stepsB stepsXB pushB
attribute [go_sem ↓] pp_eq jhm jvt js5 jiw jij jgX jhk jf2 je6 jhw jhl jfS jgi jfd jmE jkZ jiN
attribute [go_sem] joc joV jog jsr jnf jn1 joq jmE jkZ jiN jsK jpx jpG jij jgX jqS jlv jpr joO jsQ jnb jg1 jq8 jnC jjk jnX jqu jkI jeO jjy jkN jh3 joX jhZ joI jh8 jno jmc jh9 jhq jla jnK jkb jiw jhk jf2 je6 jhw jhl jfS jgi jfd plainX
attribute [go_sem] jnx jkl joS jlr jrt job jlZ jhN jmr jnt jjj jeD jhK jjE jht jlM jgY jlH jhJ jl9 jj8 jhh jgG jjn jlS jhm jgH jwq jox jlR
end Vm
end
section
namespace Vm
open Go
def Same (m : Nat) (H H' : Heap) : Prop:=H.length <= H'.length /\ ∀ k,k < m -> hget H' k = hget H k
theorem Same.refl {m : Nat} {H : Heap} : Same m H H:=⟨Nat.le_refl _,fun _ _=>rfl⟩
theorem Same.trans {m : Nat} {H H' H'' : Heap} (h : Same m H H') (g : Same m H' H'') : Same m H H'':=⟨Nat.le_trans h.1 g.1,fun k hk=>by rw [g.2 k hk,h.2 k hk]⟩
theorem Same.app {m : Nat} {H L : Heap} (h : m <= H.length) : Same m H (H ++ L):=⟨by simp,fun k hk=>jac (by omega)⟩
theorem Same.set {m r : Nat} {H : Heap} {o : Ob} (h : m <= r) : Same m H (H.set r o):=⟨by simp,fun k hk=>jaa (by omega)⟩
theorem Same.le {m n : Nat} {H H' : Heap} (h : Same m H H') (hn : n <= m) : Same n H H':=⟨h.1,fun k hk=>h.2 k (by omega)⟩
def VecAt (m : Nat) (d : D) (H : Heap) (xs : List D) : Prop:=
  m <= H.length /\ ((xs = [] /\ d = .sl true []) ∨ (xs ≠ [] /\ ∃ r,m <= r /\ r < H.length /\ d = .vec r 0 xs.length /\ hget H r = .arr xs))
theorem VecAt.nil {m : Nat} {H : Heap} (h : m <= H.length) : VecAt m (.sl true []) H []:=⟨h,.inl ⟨rfl,rfl⟩⟩
theorem VecAt.app {m : Nat} {d : D} {H L : Heap} {xs : List D} (h : VecAt m d H xs) : VecAt m d (H ++ L) xs:=by
  obtain ⟨h0,h | ⟨h1,r,h2,h3,h4,h5⟩⟩:=h
  · exact ⟨by simp;omega,.inl h⟩
  · exact ⟨by simp;omega,.inr ⟨h1,r,h2,by simp;omega,h4,by rw [jac h3,h5]⟩⟩
theorem VecAt.setLow {m k : Nat} {o : Ob} {d : D} {H : Heap} {xs : List D} (h : VecAt m d H xs) (hk : k < m) : VecAt m d (H.set k o) xs:=by
  obtain ⟨h0,h | ⟨h1,r,h2,h3,h4,h5⟩⟩:=h
  · exact ⟨by simpa using h0,.inl h⟩
  · exact ⟨by simpa using h0,.inr ⟨h1,r,h2,by simpa using h3,h4,by rw [jaa (by omega),h5]⟩⟩
theorem VecAt.cases {m : Nat} {d : D} {H : Heap} {xs : List D} (h : VecAt m d H xs) (hx : xs ≠ []) : ∃ r,m <= r /\ r < H.length /\ d = .vec r 0 xs.length /\ hget H r = .arr xs:=by
  obtain ⟨h0,h | ⟨h1,h2⟩⟩:=h
  · exact absurd h.1 hx
  · exact h2
theorem VecAt.one {m : Nat} {d : D} {H : Heap} {xs : List D} (h : VecAt m d H xs) : d.cells = [d] /\ aggQ d = false /\ noTup d = true:=by
  obtain ⟨h0,h | ⟨h1,r,h2,h3,h4,h5⟩⟩:=h
  · rw [h.2];exact ⟨rfl,rfl,rfl⟩
  · rw [h4];exact ⟨rfl,rfl,rfl⟩
theorem VecAt.is {m : Nat} {d : D} {H : Heap} {xs : List D} (h : VecAt m d H xs) : VecIs d H xs:=by
  obtain ⟨h0,h | ⟨h1,r,h2,h3,h4,h5⟩⟩:=h
  · exact .inl h
  · exact .inr ⟨h1,r,h4,h5,h3⟩
theorem VecAt.out {m : Nat} {d : D} {H : Heap} {xs : List D} (h : VecAt m d H xs) (hs : stripL xs = some xs) : outPure H d = some (.sl false xs):=h.is.out hs
theorem VecAt.store {m r i : Nat} {H : Heap} {xs : List D} {x : D} (hm : m <= r) (hr : r < H.length) (hi : i < xs.length) : VecAt m (.vec r 0 xs.length) (H.set r (.arr (xs.set i x))) (xs.set i x):=
  ⟨by simp;omega,.inr ⟨fun h=>by have:=congrArg List.length h;simp at this;subst this;simp at hi,r,hm,by simpa using hr,by simp,jad hr⟩⟩
theorem jep {H : Heap} {r n : Nat} {xs : List D} (h : hget H r = .arr xs) (hx : xs ≠ []) (hs : headSize n xs = true) : vecSize H r n = true:=by
  unfold vecSize
  rw [h]
  cases xs with
  | nil=>exact absurd rfl hx
  | cons x l=>exact hs
theorem VecAt.append {P : Program} {t e : TypeId} {n w m : Nat} {z d q : D} {H : Heap} {xs : List D} (he : elemT P t = some e) (hn : sizeT P e = some n) (hw : bytesT P e = some w) (hz : zeroT P e = some z) (hzn : z.cells.length = n) (hw0 : w ≠ 0)
    (h : VecAt m d H xs) (hq : q.cells.length = n) (hs : strip q = some q) (hx : headSize n xs = true) (hm : (xs.length + 1) * w <= 140737488355328) :
    ∃ d' H',appendD P t (H ++ [Ob.arr [q]]) d (.vec H.length 0 1) = some (d',H') /\ VecAt m d' H' (xs ++ [q]) /\ Same m H H':=by
  have hadd : addedD (H ++ [Ob.arr [q]]) (.vec H.length 0 1) = some ([q],H ++ [Ob.arr [q]]):=by
    have : pures (H ++ [Ob.arr [q]]) [q] = some ([q],H ++ [Ob.arr [q]]):=jaz (by simp [stripL,hs])
    simp [addedD,elems,jap,jbQ,this,puresA,jcw hs]
  have hqs : headSize n [q] = true:=by simp [headSize,hq]
  obtain ⟨h0,⟨rfl,rfl⟩ | ⟨h1,r,h2,h4,rfl,h3⟩⟩:=h
  · refine ⟨.vec (H.length + 1) 0 1,H ++ [Ob.arr [q]] ++ [Ob.arr [q]],?_,⟨by simp;omega,.inr ⟨by simp,H.length + 1,by omega,by simp,rfl,?_⟩⟩,⟨by simp;try omega,fun k hk=>?_⟩⟩
    · simp only [appendD,he,hn,hw,hz,Option.bind_some,hadd,hzn]
      simp [hw0,hqs,headSize,mostBytes]
      exact ⟨hq,by simpa using hm⟩
    · have:=jap (H:=H ++ [Ob.arr [q]]) (L:=[Ob.arr [q]])
      simp only [List.length_append,List.length_cons,List.length_nil,Nat.zero_add] at this
      rw [this];rfl
    · rw [List.append_assoc,jac (by omega)]
  · have hg : hget (H ++ [Ob.arr [q]]) r = .arr xs:=by rw [jac h4,h3]
    have hne : xs.isEmpty = false:=by simpa using h1
    refine ⟨.vec (H.length + 1) 0 (xs.length + 1),(H ++ [Ob.arr [q]]).set r Ob.dead ++ [Ob.arr (xs ++ [q])],?_,⟨by simp;omega,.inr ⟨by simp,H.length + 1,by omega,by simp,by simp,?_⟩⟩,⟨by simp;try omega,fun k hk=>?_⟩⟩
    · simp only [appendD,he,hn,hw,hz,Option.bind_some,hadd,hzn]
      simp [hw0,hqs,hg,hx,hne,hm,mostBytes]
    · have:=jap (H:=(H ++ [Ob.arr [q]]).set r Ob.dead) (L:=[Ob.arr (xs ++ [q])])
      simp only [List.length_set,List.length_append,List.length_cons,List.length_nil,Nat.zero_add] at this
      rw [this];rfl
    · rw [jac (by simp;omega),jaa (by omega),jac (by omega)]
theorem jdZ {k r o n : Nat} {H : Heap} : pur (k + 1) H (.vec r o n) = (match hget H r with
    | .arr xs=>if o + n <= xs.length then (purL (pur k) (H.set r (.fro xs)) ((xs.drop o).take n)).map fun (l,H)=>(.sl false l,H) else none
    | .fro xs=>if o + n <= xs.length then (purL (pur k) H ((xs.drop o).take n)).map fun (l,H)=>(.sl false l,H) else none
    | _=>none):=rfl
theorem jh7 {k : Nat} {cs : List D} {H : Heap} (h : stripL cs = none) : pur (k + 1) H (.tup cs) = (purL (pur k) H cs).map fun (l,H)=>(.tup l,H):=by
  conv=>lhs;unfold Vm.pur
  simp only [strip,h,Option.map_none]
theorem VecAt.pur {m k : Nat} {d : D} {H : Heap} {xs : List D} (h : VecAt m d H xs) (hs : stripL xs = some xs) : ∃ H',Vm.pur (k + 2) H d = some (.sl false xs,H'):=by
  obtain ⟨h0,⟨rfl,rfl⟩ | ⟨h1,r,h2,h3,rfl,h4⟩⟩:=h
  · exact ⟨H,rfl⟩
  · refine ⟨H.set r (.fro xs),?_⟩
    rw [jdZ,h4]
    simp only [Nat.zero_add,Nat.le_refl,if_true,List.drop_zero,List.take_length]
    rw [jbd hs];rfl
theorem jcY {k : Nat} {H : Heap} {d : D} (h : strip d = some d) : pur (k + 1) H d = some (d,H):=by unfold Vm.pur;rw [h]
theorem VecAt.out_pair {m : Nat} {d e : D} {H : Heap} {xs : List D} (h : VecAt m d H xs) (hs : stripL xs = some xs) (he : strip e = some e) : outPure H (.tup [d,e]) = some (.tup [.sl false xs,e]):=by
  obtain ⟨h0,⟨rfl,rfl⟩ | ⟨h1,r,h2,h3,rfl,h4⟩⟩:=h
  · have : strip (.tup [.sl true [],e]) = some (.tup [.sl false [],e]):=by simp [strip,stripL,he]
    unfold outPure deepest Vm.pur
    rw [this];rfl
  · have hv : VecAt m (.vec r 0 xs.length) H xs:=⟨h0,.inr ⟨h1,r,h2,h3,rfl,h4⟩⟩
    obtain ⟨H',hp⟩:=hv.pur (k:=3) hs
    have he':=jcY (k:=4) (H:=H') he
    unfold outPure deepest
    rw [jh7 (by simp [stripL,strip])]
    simp only [purL,hp,Option.bind_some,he',Option.map_some]
end Vm
end
