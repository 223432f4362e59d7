/- The interpreter's operations on slices, maps, structs; code and calls. -/
import Derived.Test.YtcppjlmicdfceaaZzV2
import Derived.Still
set_option linter.unusedVariables false
namespace Vm
open Go

def inRange (i : D) (n : Nat) : Option Nat :=
  match i with
  | .int _ v => if 0 ≤ v ∧ v < n then some v.toNat else none
  | _ => none
def vecSize (H : Heap) (r n : Nat) : Bool :=
  match hget H r with
  | .arr (x :: _) | .fro (x :: _) => x.cells.length == n
  | _ => false
def indexAddrD (P : Program) (t : TypeId) (H : Heap) (x i : D) : Option D :=
  match P.underlying t with
  | some (.slice e) => match x with
    | .sl _ xs => (inRange i xs.length).bind fun k => (sizeT P e).bind fun n => (xs[k]?).bind fun y => if y.cells.length = n then some (.ept y 0) else none
    | .vec r o n => (inRange i n).bind fun k => (sizeT P e).bind fun z => if vecSize H r z then some (.ptr r (o + k) 0) else none
    | _ => none
  | some (.array n e) => (inRange i n).bind fun k => (sizeT P e).bind fun m => moveP x (k * m)
  | _ => none
def indexD (P : Program) (t : TypeId) (x i : D) : Option D :=
  match P.underlying t, x with
  | some (.array n e), .agg cs => (inRange i n).bind fun k => (sizeT P e).bind fun m => partD P e cs (k * m)
  | some .string, .str s => (inRange i s.length).bind fun k => (s[k]?).map fun b => .int .u8 b.toNat
  | _, _ => none
def bound (d : Option D) (dflt : Nat) : Option Nat :=
  match d with
  | none => some dflt
  | some (.int _ v) => if 0 ≤ v then some v.toNat else none
  | _ => none
def headSize (n : Nat) : List D → Bool
  | [] => true
  | x :: _ => x.cells.length == n
def sliceD (P : Program) (t : TypeId) (H : Heap) (x : D) (lo hi mx : Option D) : Option D :=
  match P.underlying t, x, mx with
  | some .string, .str s, none => (bound lo 0).bind fun l => (bound hi s.length).bind fun h => if l ≤ h ∧ h ≤ s.length then some (.str ((s.take h).drop l)) else none
  | some (.slice e), .sl f xs, none => (sizeT P e).bind fun n => (bound lo 0).bind fun l => (bound hi xs.length).bind fun h =>
      if l ≤ h ∧ h ≤ xs.length ∧ headSize n xs then some (.sl (f && h == xs.length) ((xs.take h).drop l)) else none
  | some (.slice e), .sl _ xs, some m => (sizeT P e).bind fun n => (bound lo 0).bind fun l => (bound hi xs.length).bind fun h => (bound (some m) 0).bind fun m =>
      if l ≤ h ∧ h ≤ m ∧ m ≤ xs.length ∧ headSize n xs ∧ hi.isSome then some (.sl (h == m) ((xs.take h).drop l)) else none
  | some (.slice e), .vec r o n, none => (sizeT P e).bind fun z => (bound lo 0).bind fun l => (bound hi n).bind fun h =>
      if l ≤ h ∧ h ≤ n ∧ vecSize H r z then some (if l = h then .sl false [] else .vec r (o + l) (h - l)) else none
  | _, _, _ => none
/-- what is appended: plain data -/
def addedD (H : Heap) : D → Option (List D × Heap)
  | .str s => some (bytesOf s, H)
  | d => (elems H d).bind fun xs => pures H xs
def appendD (P : Program) (t : TypeId) (H : Heap) (s x : D) : Option (D × Heap) :=
  (elemT P t).bind fun e => (sizeT P e).bind fun n => (bytesT P e).bind fun w => (zeroT P e).bind fun z => (addedD H x).bind fun (ys, H) =>
    if z.cells.length ≠ n ∨ w = 0 then none else if ys.isEmpty then (match s with | .sl _ _ | .vec _ _ _ => some (s, H) | _ => none) else if headSize n ys = false then none else
    match s with
    | .sl true xs => if headSize n xs ∧ (xs.length + ys.length) * w ≤ mostBytes then some (.vec H.length 0 (xs.length + ys.length), H ++ [.arr (xs ++ ys)]) else none
    | .vec r 0 m => match hget H r with
      | .arr xs => if headSize n xs ∧ xs.isEmpty = false ∧ m = xs.length ∧ (xs.length + ys.length) * w ≤ mostBytes then some (.vec H.length 0 (xs.length + ys.length), H.set r .dead ++ [.arr (xs ++ ys)]) else none
      | _ => none
    | _ => none
def lenD (P : Program) (t : TypeId) (H : Heap) (x : D) : Option Nat :=
  match P.underlying t, x with
  | some .string, .str s => some s.length
  | some (.array n _), _ => some n
  | some (.slice _), .sl _ xs => some xs.length
  | some (.slice _), .vec _ _ n => some n
  | some (.map _ _), .nilm => some 0
  | some (.map _ _), .map r => match hget H r with
    | .map es => some es.length
    | _ => none
  | _, _ => none
/-- a place in a map -/
def findE (k : D) : List (D × D) → Nat → Option (Option (Nat × D))
  | [], _ => some none
  | e :: es, i => (eqSs k.cells e.1.cells).bind fun b => if b then some (some (i, e.2)) else findE k es (i + 1)
def keyOk (P : Program) (t : TypeId) (k : D) : Bool :=
  match P.underlying t, k with
  | some (.int _), .int _ _ | some .string, .str _ | some .bool, .bool _ => true
  | some (.array n e), .agg cs => (match P.underlying e, sizeT P e with | some (.int _), some 1 => true | _, _ => false) && cs.length == n && cs.all fun | .int _ _ => true | _ => false
  | _, _ => false
def lookupD (P : Program) (t : TypeId) (H : Heap) (m k : D) (ok : Bool) : Option D :=
  match P.underlying t with
  | some (.map kt vt) => if keyOk P kt k = false then none else
    (match m with
      | .nilm => some none
      | .map r => match hget H r with
        | .map es => findE k es 0
        | _ => none
      | _ => none).bind fun f =>
      (match f with
        | some (_, v) => some (v, true)
        | none => (zeroT P vt).map fun z => (z, false)).map fun (v, b) => if ok then .tup [v, .bool b] else v
  | _ => none
def updateD (P : Program) (t : TypeId) (H : Heap) (m k v : D) : Option Heap :=
  match P.underlying t, m with
  | some (.map kt _), .map r => if keyOk P kt k = false then none else
    match hget H r with
    | .map es => (findE k es 0).map fun
      | some (i, _) => H.set r (.map (es.modify i fun e => (e.1, v)))
      | none => H.set r (.map (es ++ [(k, v)]))
    | _ => none
  | _, _ => none
def fillD (place : Nat → Option (Nat × Nat)) (cells : List D) : List (Nat × D) → Option (List D)
  | [] => some cells
  | (i, v) :: r => (place i).bind fun (off, n) => if v.cells.length = n ∧ off + n ≤ cells.length ∧ noTup v then fillD place (spliceL cells off v.cells) r else none
/-- the places of a struct's fields -/
def placesT (P : Program) (fs : List Field) : Option (List (Nat × Nat)) :=
  match fs with
  | [] => some []
  | f :: r => (P.info? f.type).bind fun i => (placesT P r).map ((f.offset, i.size) :: ·)
def buildD (P : Program) (t : TypeId) (parts : List (Nat × D)) : Option D :=
  (zeroT P t).bind fun z => match P.underlying t with
    | some (.struct fs) => (placesT P fs.toList).bind fun ps => (fillD (fun i => ps[i]?) z.cells parts).map .agg
    | some (.array _ e) => (sizeT P e).bind fun n => (fillD (fun i => some (i * n, n)) z.cells parts).map .agg
    | _ => none
/-- the elements of a slice that is written out -/
def fillE (n : Nat) (xs : List D) : List (Nat × D) → Option (List D)
  | [] => some xs
  | (i, v) :: r => if v.cells.length = n ∧ i < xs.length ∧ noTup v then fillE n (xs.set i v) r else none
def buildSliceD (P : Program) (t : TypeId) (len : Nat) (parts : List (Nat × D)) (H : Heap) : Option (D × Heap) :=
  (elemT P t).bind fun e => (sizeT P e).bind fun n => (zeroT P e).bind fun z =>
    if z.cells.length = n ∧ len * n ≤ 2 ^ 24 then
      if len = 0 then (if parts.isEmpty then some (.sl true [], H) else none)
      else (fillE n (List.replicate len z) parts).map fun xs => (.vec H.length 0 len, H ++ [.arr xs])
    else none
def makeSliceD (P : Program) (t : TypeId) (len cap : D) (H : Heap) : Option (D × Heap) :=
  match len, cap with
  | .int _ l, .int _ c => (elemT P t).bind fun e => (sizeT P e).bind fun n => (bytesT P e).bind fun w => (zeroT P e).bind fun z =>
    if 0 ≤ l ∧ l ≤ c ∧ c.toNat * w ≤ mostBytes ∧ c < 2 ^ 62 ∧ z.cells.length = n then
      if c = 0 then some (.sl true [], H) else some (.vec H.length 0 l.toNat, H ++ [.arr (List.replicate l.toNat z)])
    else none
  | _, _ => none
def convD (P : Program) (src dst : TypeId) (x : D) (H : Heap) : Option (D × Heap) :=
  match P.underlying src, P.underlying dst, x with
  | some (.int _), some (.int k), .int _ n => some (.int k (k.wrap n), H)
  | some .string, some .string, .str s => some (.str s, H)
  | _, _, _ => none
def copyD (P : Program) (t : TypeId) (H : Heap) (d x : D) : Option (D × Heap) :=
  (elemT P t).bind fun e => (sizeT P e).bind fun n => (addedD H x).bind fun (ys, H) => if headSize n ys = false then none else
    match d with
    | .sl _ [] => some (.int .i64 0, H)
    | .vec r o m => match hget H r with
      | .arr xs => if headSize n xs ∧ o + m ≤ xs.length then some (.int .i64 (min ys.length m : Nat), H.set r (.arr (xs.take o ++ ys.take m ++ xs.drop (o + min ys.length m)))) else none
      | _ => none
    | _ => none
def minD : D → D → Option D
  | .int k a, .int k' b => if k = k' then some (.int k (if b < a then b else a)) else none
  | _, _ => none
def maxD : D → D → Option D
  | .int k a, .int k' b => if k = k' then some (.int k (if b > a then b else a)) else none
  | _, _ => none
def fold1 (f : D → D → Option D) : List D → Option D
  | [] => none
  | x :: r => r.foldlM f x

def builtinD (P : Program) (b : Builtin) (ts : List TypeId) (args : List D) (H : Heap) : Option (D × Heap) :=
  match b, ts, args with
  | .len, [t], [x] => (lenD P t H x).map fun n => (.int .i64 n, H)
  | .append, [t, u], [s, x] => match P.underlying u with
    | some (.slice _) | some .string => appendD P t H s x
    | _ => none
  | .min, _, l => (fold1 minD l).map (·, H)
  | .max, _, l => (fold1 maxD l).map (·, H)
  | _, _, _ => none

/-! ### calls -/
inductive Mode where
  | pure
  | fresh
  | state
  deriving DecidableEq
structure Ann where
  mode : FuncId → Mode
  prim : FuncId → Option (List D → Heap → Option R)

/-- what a pure call hands back, its own memory let go -/
def outPure (Hc : Heap) (d : D) : Option D := (pur deepest Hc d).map (·.1)
/-- a list of its own becomes the caller's -/
def outFresh1 (Hc : Heap) (H : Heap) (d : D) : Option (D × Heap) :=
  match d with
  | .vec r 0 n => match hget Hc r with
    | .arr xs => if n = xs.length then (pures Hc xs).map fun (xs, _) => (.vec H.length 0 n, H ++ [.arr xs]) else none
    | _ => none
  | d => (outPure Hc d).map (·, H)
def outFreshL (Hc : Heap) (H : Heap) : List D → Option (List D × Heap) := purL (fun H d => outFresh1 Hc H d) H
def outFresh (Hc : Heap) (H : Heap) (d : D) : Option (D × Heap) :=
  match d with
  | .tup cs => (outFreshL Hc H cs).map fun (l, H) => (.tup l, H)
  | d => outFresh1 Hc H d
def flatIn (H : Heap) : D → Bool
  | .vec r _ _ => match hget H r with
    | .arr xs => xs.all flat
    | _ => false
  | .tup cs => cs.all fun
    | .vec r _ _ => (match hget H r with | .arr xs => xs.all flat | _ => false)
    | d => flat d
  | d => flat d
/-- a function with a body, not the one that counts goroutines -/
def bodied (P : Program) (f : FuncId) : Bool :=
  match P.funcs[f]? with
  | some fn => fn.body.isSome && !(fn.name == "runtime.NumGoroutine")
  | none => false
def callD (P : Program) (A : Ann) (call : CallF) (f : FuncId) (args : List D) (H : Heap) : Option R :=
  if bodied P f = false then none else match A.prim f with
  | some p => p args H
  | none => match A.mode f with
    | .state => call f args H
    | m => (pures H args).bind fun (as, H') => (call f as []).bind fun
        | .ok d Hc =>
          if m = .fresh then none
          else (outPure Hc d).map fun d => .ok d (if flat d then H else H')
        | .pan _ _ => none

/-! ### operations -/
def okH (x : Option (D × Heap)) : Option R := x.map fun (d, H) => .ok d H
def okD (H : Heap) (x : Option D) : Option R := x.map fun d => .ok d H
def okU (x : Option Heap) : Option R := x.map fun H => .ok ud H
def partsD (e : Env) : List (Nat × Operand) → Option (List (Nat × D))
  | [] => some []
  | (i, o) :: r => (evalO e o).bind fun d => (partsD e r).map ((i, d) :: ·)
def assertD (P : Program) (x : D) (u : TypeId) (ok : Bool) : Option D :=
  match P.underlying u with
  | some (.interface _) => none
  | some _ => match x with
    | .iface t v => if t = u then some (if ok then .tup [v, .bool true] else v) else if ok then (zeroT P u).map fun z => .tup [z, .bool false] else none
    | .nili => if ok then (zeroT P u).map fun z => .tup [z, .bool false] else none
    | _ => none
  | none => none
def stepOp (P : Program) (A : Ann) (call : CallF) (o : Op) (e : Env) (H : Heap) : Option R :=
  match o with
  | .move x | .assign x => okD H (evalO e x)
  | .pick c a b => (evalO e c).bind fun
    | .bool c => okD H (if c then evalO e a else evalO e b)
    | _ => none
  | .alloc t => (zeroT P t).map fun z => .ok (newOb H [z]).1 (newOb H [z]).2
  | .box _ x => (evalO e x).bind fun d => if noTup d then some (.ok (newOb H [d]).1 (newOb H [d]).2) else none
  | .build t ps => (partsD e ps.toList).bind fun l => okD H (buildD P t l)
  | .buildSlice t n ps => (partsD e ps.toList).bind fun l => okH (buildSliceD P t n l H)
  | .load t a => (evalO e a).bind fun p => okD H (loadD P t H p)
  | .store t a x => (evalO e a).bind fun p => (evalO e x).bind fun v => okU (storeD P t H p v)
  | .nilCheck x => (evalO e x).bind fun
    | .ptr r i j => some (.ok (.ptr r i j) H)
    | .ept y j => some (.ok (.ept y j) H)
    | .fn f cs => some (.ok (.fn f cs) H)
    | _ => none
  | .binOp op t x y _ => (evalO e x).bind fun a => (evalO e y).bind fun b => okD H (binD P op t a b)
  | .unOp op _ x => (evalO e x).bind fun a => okD H (unD op a)
  | .convert s t x => (evalO e x).bind fun a => okH (convD P s t a H)
  | .makeInterface t x => (evalO e x).bind fun a => match P.underlying t with
    | some (.interface _) => none
    | some _ => some (.ok (.iface t a) H)
    | none => none
  | .makeFunc (.func f) fs cs => if fs.isEmpty then (evalOs e cs.toList).map fun l => .ok (.fn f l) H else none
  | .makeSlice t l c => (evalO e l).bind fun l => (evalO e c).bind fun c => okH (makeSliceD P t l c H)
  | .slice t x lo hi mx => (evalO e x).bind fun x => (evalOo e lo).bind fun lo => (evalOo e hi).bind fun hi => (evalOo e mx).bind fun mx => okD H (sliceD P t H x lo hi mx)
  | .fieldAddr t x f => (evalO e x).bind fun p => (fieldT P t f).bind fun (o, u) => (sizeT P u).bind fun _ => okD H (moveP p o)
  | .field t x f => (evalO e x).bind fun
    | .agg cs => (fieldT P t f).bind fun (o, u) => okD H (partD P u cs o)
    | _ => none
  | .indexAddr t x i => (evalO e x).bind fun x => (evalO e i).bind fun i => okD H (indexAddrD P t H x i)
  | .index t x i => (evalO e x).bind fun x => (evalO e i).bind fun i => okD H (indexD P t x i)
  | .extract x i => (evalO e x).bind fun
    | .tup ds => okD H ds[i]?
    | _ => none
  | .typeAssert x _ t ok => (evalO e x).bind fun a => okD H (assertD P a t ok)
  | .call c => (evalOs e c.args.toList).bind fun args => match c.callee with
    | .builtin b => okH (builtinD P b c.argTypes.toList args H)
    | .value f => (evalO e f).bind fun
      | .fn f cs => callD P A call f (args ++ cs) H
      | .yld r => call (P.funcs.size + r) args H
      | _ => none
    | .invoke _ _ => none
  | .panic x => (evalO e x).bind fun
    | .iface t d => some (.pan (.iface t d) H)
    | _ => none
  | _ => none
end Vm
