/- Texts that stand behind this claim, one after the other. -/
import GoSem.Step
import Derived.Laws.Sem
import Derived.Laws.Cells
import Derived.Laws.IdiomCopy
import Derived.Laws.Entries
import Derived.Laws.NewFold
import Derived.Orders
import Derived.Still
import Derived.Below
import Derived.RangeFuncLeaves
import Derived.RangeFuncRecord
import Derived.OrdersIn
import Derived.RecoverIn
import Derived.Laws.Strings
import Derived.Laws.StructEq
import Derived.ChangeKeysEq
import Derived.Deep.AppendSrc
import Derived.Deep.Upon
import Derived.Laws.AppendOwn
import Derived.Laws.MakeOwn
set_option maxHeartbeats 4000000
set_option linter.unusedVariables false
set_option linter.unusedSimpArgs false
section
namespace Vm
open Go
inductive D where
  | bool (b : Bool)
  | int (k : IntKind) (n : Int)
  | str (s : List UInt8)
  | nilp
  | ptr (r i j : Nat)
  | ept (x : D) (j : Nat)
  | sl (f : Bool) (xs : List D)
  | vec (r o n : Nat)
  | map (r : Nat)
  | nilm
  | fn (f : FuncId) (cs : List D)
  | bfn (f : FuncId) (fs : List D)
  | niln
  | iface (t : TypeId) (d : D)
  | nili
  | agg (cs : List D)
  | tup (ds : List D)
  | yld (r : Nat)
  deriving Inhabited
def ud : D:=.tup []
def D.cells : D -> List D
  | .agg cs=>cs
  | d=>[d]
structure Lp where
  st : LoopState
  pend : Option Code
  tmps : Nat -> D
  N : Nat
  ps : Array Tmp
  assign : Code
  body : Code
  deriving Inhabited
inductive Ob where
  | arr (xs : List D)
  | fro (xs : List D)
  | map (es : List (D × D))
  | loop (l : Lp)
  | dead
  deriving Inhabited
inductive Dfr where
  | mark
  | call (f : FuncId) (args : List D)
  deriving Inhabited
structure Env where
  f : Nat -> D
  df : Option (List Dfr)
instance : CoeFun Env (fun _=>Nat -> D):=⟨Env.f⟩
abbrev Heap:=List Ob
def put (e : Env) (i : Nat) (v : D) : Env:=⟨fun j=>if j = i then v else e j,e.df⟩
def putO (e : Env) : Option Nat -> D -> Env
  | some i,v=>put e i v
  | none,_=>e
def ofArgs (l : List D) : Env:=⟨fun i=>l.getD i ud,some []⟩
mutual
def ofV : Value -> Option D
  | .bool b=>some (.bool b)
  | .int k n=>some (.int k n)
  | .string s=>some (.str s.data.toList)
  | .pointer none=>some .nilp
  | .slice none 0 0=>some (.sl true [])
  | .map none=>some .nilm
  | .nilFunc=>some .niln
  | .nilIface=>some .nili
  | .agg ⟨cs⟩=>if cs.all Value.oneCell' then (ofVs cs).map .agg else none
  | .func (.func f) ⟨[]⟩ ⟨[]⟩=>some (.fn f [])
  | .tuple ⟨[]⟩=>some (.tup [])
  | _=>none
def ofVs : List Value -> Option (List D)
  | []=>some []
  | v :: r=>(ofV v).bind fun d=>(ofVs r).map (d :: ·)
end
def evalO (e : Env) : Operand -> Option D
  | .tmp t=>some (e t)
  | .const v=>ofV v
  | .global _=>none
  | .func f=>some (.fn f [])
def evalOs (e : Env) : List Operand -> Option (List D)
  | []=>some []
  | o :: r=>(evalO e o).bind fun d=>(evalOs e r).map (d :: ·)
def evalOo (e : Env) : Option Operand -> Option (Option D)
  | none=>some none
  | some o=>(evalO e o).map some
def isAggT (P : Program) (t : TypeId) : Option Bool:=
  match P.underlying t with
  | some (.struct _) | some (.array _ _)=>some true
  | some _=>some false
  | none=>none
def sizeT (P : Program) (t : TypeId) : Option Nat:=((P.info? t).map (·.size)).bind fun n=>if n = 0 then none else some n
def sizeZ (P : Program) (t : TypeId) : Option Nat:=if (P.info? t).map (·.size) = some 0 then some 0 else none
def orS : Option Nat -> Option Nat -> Option Nat
  | some n,_=>some n
  | none,x=>x
def sizeS (P : Program) (t : TypeId) : Option Nat:=orS (sizeT P t) (sizeZ P t)
def bytesT (P : Program) (t : TypeId) : Option Nat:=(P.info? t).map (·.bytes)
def zeroT (P : Program) (t : TypeId) : Option D:=(P.info? t).bind fun i=>(i.zero.bind ofV).bind fun d=>match d with
  | .tup _=>none
  | d=>some d
def elemT (P : Program) (t : TypeId) : Option TypeId:=
  match P.underlying t with
  | some (.slice e)=>some e
  | _=>none
def fieldT (P : Program) (t : TypeId) (f : Nat) : Option (Nat × TypeId):=
  match P.underlying t with
  | some (.struct fs)=>(fs[f]?).map fun x=>(x.offset,x.type)
  | _=>none
def partD (P : Program) (t : TypeId) (cs : List D) (j : Nat) : Option D:=
  (sizeT P t).bind fun n=>(isAggT P t).bind fun a=>
    if j + n <= cs.length then (if a then some (.agg ((cs.drop j).take n)) else if n = 1 then cs[j]? else none) else none
def noTup : D -> Bool
  | .tup _=>false
  | _=>true
def aggQ : D -> Bool
  | .agg _=>true
  | _=>false
def partE (P : Program) (t : TypeId) (x : D) (j : Nat) : Option D:=
  (sizeT P t).bind fun n=>(isAggT P t).bind fun a=>
    if j = 0 /\ x.cells.length = n /\ aggQ x = a then some x else partD P t x.cells j
def spliceL (cs : List D) (j : Nat) (vs : List D) : List D:=cs.take j ++ vs ++ cs.drop (j + vs.length)
def setE (x : D) (j : Nat) (v : D) : Option D:=
  if noTup v = false then none
  else if j = 0 /\ v.cells.length = x.cells.length /\ aggQ v = aggQ x then some v
  else if j + v.cells.length <= x.cells.length /\ aggQ x then some (.agg (spliceL x.cells j v.cells)) else none
mutual
def strip : D -> Option D
  | .bool b=>some (.bool b)
  | .int k n=>some (.int k n)
  | .str s=>some (.str s)
  | .nilp=>some .nilp
  | .sl _ xs=>(stripL xs).map (.sl false)
  | .nilm=>some .nilm
  | .niln=>some .niln
  | .nili=>some .nili
  | .agg cs=>(stripL cs).map .agg
  | .tup cs=>(stripL cs).map .tup
  | _=>none
def stripL : List D -> Option (List D)
  | []=>some []
  | d :: r=>(strip d).bind fun d=>(stripL r).map (d :: ·)
end
def hget (H : Heap) (r : Nat) : Ob:=H.getD r .dead
def elems (H : Heap) : D -> Option (List D)
  | .sl _ xs=>some xs
  | .vec r o n=>match hget H r with
    | .arr xs | .fro xs=>if o + n <= xs.length then some ((xs.drop o).take n) else none
    | _=>none
  | _=>none
def purL (f : Heap -> D -> Option (D × Heap)) : Heap -> List D -> Option (List D × Heap)
  | H,[]=>some ([],H)
  | H,d :: r=>(f H d).bind fun (d,H)=>(purL f H r).map fun (l,H)=>(d :: l,H)
def pur : Nat -> Heap -> D -> Option (D × Heap)
  | 0,_,_=>none
  | k + 1,H,d=>match strip d with
    | some d=>some (d,H)
    | none=>match d with
      | .vec r o n=>match hget H r with
        | .arr xs=>if o + n <= xs.length then (purL (pur k) (H.set r (.fro xs)) ((xs.drop o).take n)).map fun (l,H)=>(.sl false l,H) else none
        | .fro xs=>if o + n <= xs.length then (purL (pur k) H ((xs.drop o).take n)).map fun (l,H)=>(.sl false l,H) else none
        | _=>none
      | .agg cs=>(purL (pur k) H cs).map fun (l,H)=>(.agg l,H)
      | .tup cs=>(purL (pur k) H cs).map fun (l,H)=>(.tup l,H)
      | _=>none
def deepest : Nat:=6
def pures (H : Heap) (l : List D) : Option (List D × Heap):=purL (pur deepest) H l
def flat1 : D -> Bool
  | .bool _ | .int _ _ | .str _ | .nilp | .nilm | .niln | .nili=>true
  | .sl _ xs=>xs.isEmpty
  | _=>false
def flat : D -> Bool
  | .agg cs | .tup cs=>cs.all flat1
  | d=>flat1 d
end Vm
end
section
namespace Vm
open Go
inductive R where
  | ok (d : D) (H : Heap)
  | pan (d : D) (H : Heap)
abbrev CallF:=FuncId -> List D -> Heap -> Option R
def dstOk (N : Nat) : Option Nat -> Bool
  | some d=>d < N
  | none=>true
def intBin (op : BinOp) (k : IntKind) (a b : Int) : Option D:=
  match op with
  | .add=>some (.int k (k.wrap (a + b)))
  | .sub=>some (.int k (k.wrap (a - b)))
  | .mul=>some (.int k (k.wrap (a * b)))
  | .quo=>if b = 0 then none else some (.int k (k.wrap (a.tdiv b)))
  | .rem=>if b = 0 then none else some (.int k (a.tmod b))
  | .and=>some (.int k (k.wrap (BitVec.ofInt k.bits a &&& BitVec.ofInt k.bits b).toNat))
  | .or=>some (.int k (k.wrap (BitVec.ofInt k.bits a ||| BitVec.ofInt k.bits b).toNat))
  | .xor=>some (.int k (k.wrap (BitVec.ofInt k.bits a ^^^ BitVec.ofInt k.bits b).toNat))
  | .andNot=>some (.int k (k.wrap (BitVec.ofInt k.bits a &&& ~~~ BitVec.ofInt k.bits b).toNat))
  | .eql=>some (.bool (a == b))
  | .neq=>some (.bool (a != b))
  | .lss=>some (.bool (decide (a < b)))
  | .leq=>some (.bool (decide (a <= b)))
  | .gtr=>some (.bool (decide (a > b)))
  | .geq=>some (.bool (decide (a ≥ b)))
  | .shl | .shr=>none
def shiftD (op : BinOp) (k : IntKind) (a b : Int) : Option D:=
  if b < 0 then none else
  match op with
  | .shl=>some (.int k (k.wrap (a * 2 ^ (min b.toNat k.bits))))
  | .shr=>some (.int k (a.fdiv (2 ^ (min b.toNat k.bits))))
  | _=>none
def bytesLess : List UInt8 -> List UInt8 -> Bool:=Go.Op.bytesLess
def strBin (op : BinOp) (a b : List UInt8) : Option D:=
  match op with
  | .add=>if a.length + b.length < 2 ^ 62 then some (.str (a ++ b)) else none
  | .eql=>some (.bool (a == b))
  | .neq=>some (.bool (!(a == b)))
  | .lss=>some (.bool (bytesLess a b))
  | .leq=>some (.bool (bytesLess a b || a == b))
  | .gtr=>some (.bool (!(bytesLess a b || a == b)))
  | .geq=>some (.bool (!bytesLess a b))
  | _=>none
def eqS : D -> D -> Option Bool
  | .int k a,.int k' b=>if k = k' then some (a == b) else none
  | .bool a,.bool b=>some (a == b)
  | .str a,.str b=>some (a == b)
  | _,_=>none
def eqSs : List D -> List D -> Option Bool
  | [],[]=>some true
  | a :: r,b :: s=>(eqS a b).bind fun x=>(eqSs r s).map (x && ·)
  | _,_=>none
def intQ : D -> Bool
  | .int _ _=>true
  | _=>false
def kindT (P : Program) (t : TypeId) : Option Nat:=
  match P.underlying t with
  | some (.int _)=>some 0
  | some .bool=>some 1
  | some .string=>some 2
  | _=>none
def kindsF (P : Program) : Nat -> List Field -> Option (List Nat)
  | _,[]=>some []
  | o,f :: fs=>if f.offset = o /\ f.name ≠ "_" then (kindT P f.type).bind fun k=>(kindsF P (o + 1) fs).map (k :: ·) else none
def kindsT (P : Program) (t : TypeId) : Option (List Nat):=
  match P.underlying t with
  | some (.struct fs)=>if P.stoodInHeld t = false then kindsF P 0 fs.toList else none
  | _=>none
def eqK1 : Nat -> D -> D -> Option Bool
  | 0,.int k a,.int k' b=>if k = k' then some (a == b) else none
  | 1,.bool a,.bool b=>some (a == b)
  | 2,.str a,.str b=>some (a == b)
  | _,_,_=>none
def eqK : List Nat -> List D -> List D -> Option Bool
  | [],[],[]=>some true
  | k :: ks,x :: xs,y :: ys=>(eqK1 k x y).bind fun a=>(eqK ks xs ys).map (a && ·)
  | _,_,_=>none
def eqD (P : Program) (t : TypeId) : D -> D -> Option Bool
  | .int k a,.int k' b=>match P.underlying t with | some (.int _)=>eqS (.int k a) (.int k' b) | _=>none
  | .bool a,.bool b=>match P.underlying t with | some .bool=>some (a == b) | _=>none
  | .str a,.str b=>match P.underlying t with | some .string=>some (a == b) | _=>none
  | .nilp,.nilp=>match P.underlying t with | some (.pointer _)=>some true | _=>none
  | .ptr _ _ _,.nilp | .nilp,.ptr _ _ _ | .ept _ _,.nilp | .nilp,.ept _ _=>match P.underlying t with | some (.pointer _)=>some false | _=>none
  | .nili,.nili=>match P.underlying t with | some (.interface ms)=>if ms.isEmpty then some true else none | _=>none
  | .nili,.iface _ _ | .iface _ _,.nili=>match P.underlying t with | some (.interface _)=>some false | _=>none
  | .niln,.niln=>match P.underlying t with | some (.func _ _ _)=>some true | _=>none
  | .fn _ _,.niln | .niln,.fn _ _=>match P.underlying t with | some (.func _ _ _)=>some false | _=>none
  | .agg xs,.agg ys=>match P.underlying t with
    | some (.array n e)=>match P.underlying e,sizeT P e with
      | some (.int _),some 1=>if xs.length = n /\ ys.length = n /\ xs.all intQ /\ ys.all intQ then eqSs xs ys else none
      | _,_=>none
    | some (.struct _)=>(kindsT P t).bind fun ks=>eqK ks xs ys
    | _=>none
  | .ptr r i j,.ptr r' i' j'=>match P.underlying t with | some (.pointer e)=>if r = r' /\ i = i' /\ j = j' /\ (sizeS P e).isSome then some true else none | _=>none
  | _,_=>none
def binD (P : Program) (op : BinOp) (t : TypeId) (x y : D) : Option D:=
  match x,y with
  | .int k a,.int k' b=>match op with
    | .shl=>shiftD .shl k a b
    | .shr=>shiftD .shr k a b
    | op=>if k = k' then intBin op k a b else none
  | .str a,.str b=>strBin op a b
  | x,y=>match op with
    | .eql=>(eqD P t x y).map .bool
    | .neq=>(eqD P t x y).map fun b=>.bool (!b)
    | _=>none
def nilS : Operand -> Bool
  | .const (.slice none 0 0)=>true
  | _=>false
def neverNil : D -> Bool
  | .sl _ (_ :: _)=>true
  | .vec _ _ _=>true
  | _=>false
def nilOp : BinOp -> Option D
  | .eql=>some (.bool false)
  | .neq=>some (.bool true)
  | _=>none
def nilCmp (P : Program) (op : BinOp) (t : TypeId) (x : D) : Option D:=if ((elemT P t).isSome && neverNil x) = true then nilOp op else none
def binN (z : Bool) (P : Program) (op : BinOp) (t : TypeId) (x y : D) : Option D:=
  match z with
  | true=>nilCmp P op t x
  | false=>binD P op t x y
def unD (op : UnOp) : D -> Option D
  | .int k n=>match op with
    | .neg=>some (.int k (k.wrap (0 - n)))
    | _=>none
  | .bool b=>match op with
    | .not=>some (.bool (!b))
    | _=>none
  | _=>none
def bytesOf (s : List UInt8) : List D:=s.map fun b=>.int .u8 b.toNat
def bytesBack : List D -> Option (List UInt8)
  | []=>some []
  | .int .u8 n :: r=>(bytesBack r).map (UInt8.ofNat n.toNat :: ·)
  | _=>none
def mostBytes : Nat:=2 ^ 47
def newOb (H : Heap) (xs : List D) : D × Heap:=(.ptr H.length 0 0,H ++ [.arr xs])
def loadD (P : Program) (t : TypeId) (H : Heap) : D -> Option D
  | .ptr r i j=>match hget H r with
    | .arr xs | .fro xs=>(xs[i]?).bind fun x=>partE P t x j
    | _=>none
  | .ept x j=>partE P t x j
  | _=>none
def storeD (P : Program) (t : TypeId) (H : Heap) : D -> D -> Option Heap
  | .ptr r i j,v=>match hget H r with
    | .arr xs=>(sizeS P t).bind fun n=>if v.cells.length = n then (xs[i]?).bind fun x=>(setE x j v).map fun x=>H.set r (.arr (xs.set i x)) else none
    | _=>none
  | _,_=>none
def moveP (p : D) (o : Nat) : Option D:=
  match p with
  | .ptr r i j=>some (.ptr r i (j + o))
  | .ept x j=>some (.ept x (j + o))
  | _=>none
end Vm
end
section
namespace Vm
open Go
structure Reg where
  b : Nat
  sz : Nat
  cap : Nat
  on : Bool:=true
  deriving Inhabited
abbrev Rho:=Nat -> Reg
structure OnLt (ρ : Rho) (r n : Nat) : Prop where
  lt : r < n
  on : (ρ r).on = true
abbrev Im:=Nat -> Nat -> Option Value
abbrev flatC (xs : List D) : List D:=xs.flatMap D.cells
mutual
inductive Rep (ρ : Rho) (n : Nat) (im : Im) : Value -> D -> Prop
  | bool (b : Bool) : Rep ρ n im (.bool b) (.bool b)
  | int (k : IntKind) (m : Int) : Rep ρ n im (.int k m) (.int k m)
  | str (s : ByteArray) : Rep ρ n im (.string s) (.str s.data.toList)
  | nilp : Rep ρ n im (.pointer none) .nilp
  | ptr (r i j : Nat) (h : OnLt ρ r n) : Rep ρ n im (.pointer (some ⟨(ρ r).b,i * (ρ r).sz + j,none⟩)) (.ptr r i j)
  | ept (b o : Nat) (x : D) (j : Nat) (vs : List Value) (hc : ∀ k,k < vs.length -> im b (o + k) = vs[k]?) (h : RepL ρ n im vs x.cells) :
      Rep ρ n im (.pointer (some ⟨b,o + j,none⟩)) (.ept x j)
  | sl0 (a : Option Addr) (cap : Nat) (f : Bool) (hf : f = true -> cap = 0) : Rep ρ n im (.slice a 0 cap) (.sl f [])
  | sl (b o sz cap : Nat) (f : Bool) (xs : List D) (vs : List Value) (hs : ∀ x,x ∈ xs -> x.cells.length = sz) (hc : ∀ k,k < vs.length -> im b (o + k) = vs[k]?)
      (h : RepL ρ n im vs (flatC xs)) (hf : f = true -> cap = xs.length) (hcap : xs.length <= cap) : Rep ρ n im (.slice (some ⟨b,o,none⟩) xs.length cap) (.sl f xs)
  | vec (r o m : Nat) (h : OnLt ρ r n) (hm : o + m <= (ρ r).cap) : Rep ρ n im (.slice (some ⟨(ρ r).b,o * (ρ r).sz,none⟩) m ((ρ r).cap - o)) (.vec r o m)
  | map (r : Nat) (h : OnLt ρ r n) : Rep ρ n im (.map (some (ρ r).b)) (.map r)
  | nilm : Rep ρ n im (.map none) .nilm
  | fn (f : FuncId) (vs : List Value) (cs : List D) (h : RepA ρ n im vs cs) : Rep ρ n im (.func (.func f) ⟨[]⟩ ⟨vs⟩) (.fn f cs)
  | bfn (f : FuncId) (vs : List Value) (cs : List D) (h : RepA ρ n im vs cs) : Rep ρ n im (.func (.func f) ⟨vs⟩ ⟨[]⟩) (.bfn f cs)
  | niln : Rep ρ n im .nilFunc .niln
  | iface (t : TypeId) (v : Value) (d : D) (h : Rep ρ n im v d) : Rep ρ n im (.iface t v) (.iface t d)
  | nili : Rep ρ n im .nilIface .nili
  | agg (vs : List Value) (cs : List D) (h : RepL ρ n im vs cs) : Rep ρ n im (.agg ⟨vs⟩) (.agg cs)
  | tup (vs : List Value) (cs : List D) (h : RepA ρ n im vs cs) : Rep ρ n im (.tuple ⟨vs⟩) (.tup cs)
  | yld (r : Nat) (h : OnLt ρ r n) : Rep ρ n im (.func (.yield (ρ r).b) #[] #[]) (.yld r)
inductive RepA (ρ : Rho) (n : Nat) (im : Im) : List Value -> List D -> Prop
  | nil : RepA ρ n im [] []
  | cons (v : Value) (d : D) (vs : List Value) (ds : List D) (h : Rep ρ n im v d) (hr : RepA ρ n im vs ds) : RepA ρ n im (v :: vs) (d :: ds)
inductive RepL (ρ : Rho) (n : Nat) (im : Im) : List Value -> List D -> Prop
  | nil : RepL ρ n im [] []
  | cons (v : Value) (d : D) (vs : List Value) (ds : List D) (h1 : v.oneCell' = true) (h : Rep ρ n im v d) (hr : RepL ρ n im vs ds) : RepL ρ n im (v :: vs) (d :: ds)
end
structure ImLe (im im' : Im) : Prop where
  le : ∀ b o v,im b o = some v -> im' b o = some v
theorem ImLe.refl (im : Im) : ImLe im im:=⟨fun _ _ _ h=>h⟩
theorem ImLe.trans {a b c : Im} (h : ImLe a b) (k : ImLe b c) : ImLe a c:=⟨fun x y v e=>k.le x y v (h.le x y v e)⟩
theorem jhV {im im' : Im} (hi : ImLe im im') {b o : Nat} {vs : List Value} (hc : ∀ k,k < vs.length -> im b (o + k) = vs[k]?) : ∀ k,k < vs.length -> im' b (o + k) = vs[k]?:=by
  intro k hk
  have:=hc k hk
  rw [List.getElem?_eq_getElem hk] at this ⊢
  exact hi.le _ _ _ this
section
variable {ρ ρ' : Rho} {n n' : Nat} {im im' : Im}
mutual
theorem Rep.mono (he : ∀ r,OnLt ρ r n -> ρ' r = ρ r) (hn : n <= n') (hi : ImLe im im') : ∀ {v : Value} {d : D},Rep ρ n im v d -> Rep ρ' n' im' v d
  | _,_,.bool b=>.bool b
  | _,_,.int k m=>.int k m
  | _,_,.str s=>.str s
  | _,_,.nilp=>.nilp
  | _,_,.ptr r i j h=>by
    have:=he r h
    have h' : OnLt ρ' r n':=⟨Nat.lt_of_lt_of_le h.lt hn,by rw [this];exact h.on⟩
    rw [<- this];exact .ptr r i j h'
  | _,_,.ept b o x j vs hc h=>.ept b o x j vs (jhV hi hc) (RepL.mono he hn hi h)
  | _,_,.sl0 a cap f hf=>.sl0 a cap f hf
  | _,_,.sl b o sz cap f xs vs hs hc h hf hcap=>.sl b o sz cap f xs vs hs (jhV hi hc) (RepL.mono he hn hi h) hf hcap
  | _,_,.vec r o m h hm=>by
    have e:=he r h
    have h' : OnLt ρ' r n':=⟨Nat.lt_of_lt_of_le h.lt hn,by rw [e];exact h.on⟩
    rw [<- e] at hm ⊢;exact .vec r o m h' hm
  | _,_,.map r h=>by
    have:=he r h
    have h' : OnLt ρ' r n':=⟨Nat.lt_of_lt_of_le h.lt hn,by rw [this];exact h.on⟩
    rw [<- this];exact .map r h'
  | _,_,.nilm=>.nilm
  | _,_,.fn f vs cs h=>.fn f vs cs (RepA.mono he hn hi h)
  | _,_,.bfn f vs cs h=>.bfn f vs cs (RepA.mono he hn hi h)
  | _,_,.niln=>.niln
  | _,_,.iface t v d h=>.iface t v d (Rep.mono he hn hi h)
  | _,_,.nili=>.nili
  | _,_,.agg vs cs h=>.agg vs cs (RepL.mono he hn hi h)
  | _,_,.tup vs cs h=>.tup vs cs (RepA.mono he hn hi h)
  | _,_,.yld r h=>by
    have:=he r h
    have h' : OnLt ρ' r n':=⟨Nat.lt_of_lt_of_le h.lt hn,by rw [this];exact h.on⟩
    rw [<- this];exact .yld r h'
theorem RepA.mono (he : ∀ r,OnLt ρ r n -> ρ' r = ρ r) (hn : n <= n') (hi : ImLe im im') : ∀ {vs : List Value} {ds : List D},RepA ρ n im vs ds -> RepA ρ' n' im' vs ds
  | _,_,.nil=>.nil
  | _,_,.cons v d vs ds h hr=>.cons v d vs ds (Rep.mono he hn hi h) (RepA.mono he hn hi hr)
theorem RepL.mono (he : ∀ r,OnLt ρ r n -> ρ' r = ρ r) (hn : n <= n') (hi : ImLe im im') : ∀ {vs : List Value} {ds : List D},RepL ρ n im vs ds -> RepL ρ' n' im' vs ds
  | _,_,.nil=>.nil
  | _,_,.cons v d vs ds h1 h hr=>.cons v d vs ds h1 (Rep.mono he hn hi h) (RepL.mono he hn hi hr)
end
theorem RepL.length : ∀ {vs : List Value} {ds : List D},RepL ρ n im vs ds -> vs.length = ds.length
  | _,_,.nil=>rfl
  | _,_,.cons _ _ _ _ _ _ hr=>by simp [RepL.length hr]
theorem RepA.length : ∀ {vs : List Value} {ds : List D},RepA ρ n im vs ds -> vs.length = ds.length
  | _,_,.nil=>rfl
  | _,_,.cons _ _ _ _ _ hr=>by simp [RepA.length hr]
theorem RepL.get : ∀ {vs : List Value} {ds : List D},RepL ρ n im vs ds -> ∀ {k : Nat} {d : D},ds[k]? = some d -> ∃ v,vs[k]? = some v /\ v.oneCell' = true /\ Rep ρ n im v d
  | _,_,.nil,k,d,h=>by simp at h
  | _,_,.cons v d vs ds h1 h hr,0,d',e=>by simp at e;subst e;exact ⟨v,rfl,h1,h⟩
  | _,_,.cons v d vs ds h1 h hr,k + 1,d',e=>by simpa using RepL.get hr (k:=k) (by simpa using e)
theorem RepA.get : ∀ {vs : List Value} {ds : List D},RepA ρ n im vs ds -> ∀ {k : Nat} {d : D},ds[k]? = some d -> ∃ v,vs[k]? = some v /\ Rep ρ n im v d
  | _,_,.nil,k,d,h=>by simp at h
  | _,_,.cons v d vs ds h hr,0,d',e=>by simp at e;subst e;exact ⟨v,rfl,h⟩
  | _,_,.cons v d vs ds h hr,k + 1,d',e=>by simpa using RepA.get hr (k:=k) (by simpa using e)
theorem RepL.one : ∀ {vs : List Value} {ds : List D},RepL ρ n im vs ds -> ∀ v ∈ vs,v.oneCell' = true
  | _,_,.nil,v,h=>by simp at h
  | _,_,.cons _ _ _ _ h1 _ hr,v,h=>by
    rcases List.mem_cons.1 h with rfl | h
    · exact h1
    · exact RepL.one hr v h
theorem RepL.toA : ∀ {vs : List Value} {ds : List D},RepL ρ n im vs ds -> RepA ρ n im vs ds
  | _,_,.nil=>.nil
  | _,_,.cons v d vs ds _ h hr=>.cons v d vs ds h (RepL.toA hr)
theorem RepL.append : ∀ {vs us : List Value} {ds es : List D},RepL ρ n im vs ds -> RepL ρ n im us es -> RepL ρ n im (vs ++ us) (ds ++ es)
  | _,_,_,_,.nil,k=>k
  | _,_,_,_,.cons v d vs ds h1 h hr,k=>.cons v d _ _ h1 h (RepL.append hr k)
theorem RepA.append : ∀ {vs us : List Value} {ds es : List D},RepA ρ n im vs ds -> RepA ρ n im us es -> RepA ρ n im (vs ++ us) (ds ++ es)
  | _,_,_,_,.nil,k=>k
  | _,_,_,_,.cons v d vs ds h hr,k=>.cons v d _ _ h (RepA.append hr k)
theorem RepL.take : ∀ {vs : List Value} {ds : List D},RepL ρ n im vs ds -> ∀ k,RepL ρ n im (vs.take k) (ds.take k)
  | _,_,.nil,k=>by simp;exact .nil
  | _,_,.cons v d vs ds h1 h hr,0=>.nil
  | _,_,.cons v d vs ds h1 h hr,k + 1=>.cons v d _ _ h1 h (RepL.take hr k)
theorem RepL.drop : ∀ {vs : List Value} {ds : List D},RepL ρ n im vs ds -> ∀ k,RepL ρ n im (vs.drop k) (ds.drop k)
  | _,_,.nil,k=>by simp;exact .nil
  | _,_,.cons v d vs ds h1 h hr,0=>.cons v d vs ds h1 h hr
  | _,_,.cons v d vs ds h1 h hr,k + 1=>by simpa using RepL.drop hr k
theorem RepA.single {v : Value} {d : D} (hv : Rep ρ n im v d) : RepA ρ n im [v] [d]:=.cons v d [] [] hv .nil
theorem Rep.cells {v : Value} {d : D} (h : Rep ρ n im v d) (ht : ∀ l,d ≠ .tup l) : RepL ρ n im v.cells.toList d.cells:=by
  have one : ∀ {v : Value} {d : D},v.oneCell' = true -> Rep ρ n im v d -> RepL ρ n im [v] [d]:=fun h1 h=>.cons _ _ [] [] h1 h .nil
  cases h with
  | agg vs cs h=>simpa [Value.cells,D.cells] using h
  | tup vs cs h=>exact absurd rfl (ht cs)
  | bool b=>exact one rfl (.bool b)
  | int k m=>exact one rfl (.int k m)
  | str s=>exact one rfl (.str s)
  | nilp=>exact one rfl .nilp
  | ptr r i j h=>exact one rfl (.ptr r i j h)
  | ept b o x j vs hc h=>exact one rfl (.ept b o x j vs hc h)
  | sl0 a cap f hf=>exact one rfl (.sl0 a cap f hf)
  | sl b o sz cap f xs vs hs hc h hf hcap=>exact one rfl (.sl b o sz cap f xs vs hs hc h hf hcap)
  | vec r o m h hm=>exact one rfl (.vec r o m h hm)
  | map r h=>exact one rfl (.map r h)
  | nilm=>exact one rfl .nilm
  | fn f vs cs h=>exact one rfl (.fn f vs cs h)
  | bfn f vs cs h=>exact one rfl (.bfn f vs cs h)
  | niln=>exact one rfl .niln
  | iface t v d h=>exact one rfl (.iface t v d h)
  | nili=>exact one rfl .nili
  | yld r h=>exact one rfl (.yld r h)
end
end Vm
end
section
namespace Vm
open Go Go.RowKit
section
variable {P : Program}
theorem jaP {t : TypeId} {n : Nat} (h : sizeT P t = some n) (w : World) : (Go.sizeOf t).run P w = .ok n w:=by
  unfold sizeT at h
  cases hi : P.info? t with
  | none=>simp [hi] at h
  | some i=>
    simp [hi] at h
    simp [Go.sizeOf,typeInfo,hi,h.2]
theorem ji8 {t : TypeId} {n : Nat} (h : sizeS P t = some n) (w : World) : (Go.sizeOf t).run P w = .ok n w:=by
  unfold sizeS at h
  cases hs : sizeT P t with
  | some m=>
    rw [hs] at h
    cases h
    exact jaP hs w
  | none=>
    rw [hs] at h
    simp only [orS,sizeZ] at h
    split at h
    · rename_i h0
      cases h
      cases hi : P.info? t with
      | none=>simp [hi] at h0
      | some i=>
        simp [hi] at h0
        simp [Go.sizeOf,typeInfo,hi,h0]
    · cases h
theorem ja8 {t : TypeId} {n : Nat} (h : sizeT P t = some n) : ∃ i,P.info? t = some i /\ i.size = n /\ n ≠ 0:=by
  unfold sizeT at h
  cases hi : P.info? t with
  | none=>simp [hi] at h
  | some i=>
    simp [hi] at h
    exact ⟨i,rfl,h.2,by rw [<- h.2];exact h.1⟩
theorem jbG {t : TypeId} {a : Bool} (h : isAggT P t = some a) (w : World) : (Go.isAgg t).run P w = .ok a w:=by
  unfold isAggT at h
  cases hu : P.underlying t with
  | none=>simp [hu] at h
  | some d=>
    rw [hu] at h
    unfold Go.isAgg
    simp only [Sem.run_bind,run_underlying hu,Result.andThen_ok]
    cases d <;> simp at h <;> subst h <;> rfl
end
end Vm
end
section
namespace Vm
open Go Go.RowKit
class Base where
  B : Im
variable [Base]
def live : Ob -> Prop
  | .arr _ | .map _ | .loop _=>True
  | _=>False
inductive RepM (ρ : Rho) (n : Nat) (im : Im) : List MapEntry -> List (D × D) -> Prop
  | nil : RepM ρ n im [] []
  | cons (m : MapEntry) (k v : D) (ms : List MapEntry) (es : List (D × D)) (hk : Rep ρ n im m.key k) (hv : Rep ρ n im m.val v) (hr : RepM ρ n im ms es) : RepM ρ n im (m :: ms) ((k,v) :: es)
def ObOk (ρ : Rho) (n : Nat) (im : Im) (w : World) (g : Reg) : Ob -> Prop
  | .arr xs => ∃ (c : Array Value) (t : TypeId) (fz : Nat × Nat), w.heap[g.b]? = some (.cells c t fz) ∧ c.size = g.cap * g.sz ∧ (∀ x, x ∈ xs → x.cells.length = g.sz) ∧
      xs.length <= g.cap /\ RepL ρ n im (c.toList.take (xs.length * g.sz)) (flatC xs) /\ (c.size <= fz.1 ∨ fz.2 <= fz.1)
  | .fro xs=>∃ (vs : List Value),(∀ x,x ∈ xs -> x.cells.length = g.sz) /\ xs.length <= g.cap /\ RepL ρ n im vs (flatC xs) /\ ∀ k,k < vs.length -> im g.b k = vs[k]?
  | .map es=>∃ (ms : Array MapEntry) (clock : Nat),w.heap[g.b]? = some (.map ms clock) /\ RepM ρ n im ms.toList es
  | .loop l=>∃ rec : Loop,w.heap[g.b]? = some (.loop rec) /\ rec.state = l.st /\ rec.pending = l.pend /\ rec.tmps.size = l.N /\ (∀ i,Rep ρ n im (rec.tmps.getD i undef) (l.tmps i)) /\ rec.params = l.ps /\ rec.assign = l.assign /\ rec.body = l.body
  | .dead=>True
structure Rel (ρ : Rho) (im : Im) (H : Heap) (w : World) : Prop where
  imc : ∀ b o v,im b o = some v -> w.cell? ⟨b,o,none⟩ = some v
  obj : ∀ r,r < H.length -> ObOk ρ H.length im w (ρ r) (hget H r)
  sep : ∀ r s,r < H.length -> s < H.length -> r ≠ s -> live (hget H r) -> live (hget H s) -> (ρ r).b ≠ (ρ s).b
  own : ∀ r,r < H.length -> live (hget H r) -> ∀ o,im (ρ r).b o = none
  base : ∀ b o v,Base.B b o = some v -> im b o = some v
  on : ∀ r,r < H.length -> hget H r ≠ .dead -> (ρ r).on = true
structure Tr (ρ : Rho) (H : Heap) (w : World) (ρ' : Rho) (H' : Heap) (w' : World) : Prop where
  os : w'.os = w.os
  tape : w'.tape = w.tape
  output : w'.output = w.output
  size : w.heap.size <= w'.heap.size
  len : H.length <= H'.length
  ext : ∀ r,r < H.length -> ρ' r = ρ r
  keep : ∀ b,b < w.heap.size -> (∀ r,r < H.length -> live (hget H r) -> (ρ r).b ≠ b) -> w'.heap[b]? = w.heap[b]?
  own : ∀ r,r < H'.length -> live (hget H' r) -> (ρ' r).b < w.heap.size -> ∃ s,s < H.length /\ live (hget H s) /\ (ρ s).b = (ρ' r).b
omit [Base] in
theorem Tr.refl (ρ : Rho) (H : Heap) (w : World) : Tr ρ H w ρ H w:=
  ⟨rfl,rfl,rfl,Nat.le_refl _,Nat.le_refl _,fun _ _=>rfl,fun _ _ _=>rfl,fun r hr hl _=>⟨r,hr,hl,rfl⟩⟩
omit [Base] in
theorem Tr.trans {ρ ρ1 ρ2 : Rho} {H H1 H2 : Heap} {w w1 w2 : World} (h : Tr ρ H w ρ1 H1 w1) (k : Tr ρ1 H1 w1 ρ2 H2 w2) : Tr ρ H w ρ2 H2 w2:=by
  refine ⟨k.os.trans h.os,k.tape.trans h.tape,k.output.trans h.output,Nat.le_trans h.size k.size,Nat.le_trans h.len k.len,?_,?_,?_⟩
  · intro r hr;rw [k.ext r (Nat.lt_of_lt_of_le hr h.len),h.ext r hr]
  · intro b hb hn
    rw [<- h.keep b hb hn]
    refine k.keep b (Nat.lt_of_lt_of_le hb h.size) ?_
    intro r hr hl he
    obtain ⟨s,hs,hls,hbs⟩:=h.own r hr hl (by omega)
    exact hn s hs hls (by omega)
  · intro r hr hl hb
    obtain ⟨s,hs,hls,hbs⟩:=k.own r hr hl (Nat.lt_of_lt_of_le hb h.size)
    obtain ⟨s',hs',hls',hbs'⟩:=h.own s hs hls (by omega)
    exact ⟨s',hs',hls',by omega⟩
theorem Rel.block_lt {ρ : Rho} {im : Im} {H : Heap} {w : World} (h : Rel ρ im H w) {r : Nat} (hr : r < H.length) (hl : live (hget H r)) : (ρ r).b < w.heap.size:=by
  have:=h.obj r hr
  cases ho : hget H r with
  | arr xs=>
    rw [ho] at this;obtain ⟨c,t,fz,hc,_⟩:=this
    exact (Array.getElem?_eq_some_iff.1 hc).1
  | map es=>
    rw [ho] at this;obtain ⟨ms,clock,hc,_⟩:=this
    exact (Array.getElem?_eq_some_iff.1 hc).1
  | loop l=>
    rw [ho] at this;obtain ⟨rec,hc,_⟩:=this
    exact (Array.getElem?_eq_some_iff.1 hc).1
  | fro xs=>rw [ho] at hl;exact hl.elim
  | dead=>rw [ho] at hl;exact hl.elim
theorem Rel.im_lt {ρ : Rho} {im : Im} {H : Heap} {w : World} (h : Rel ρ im H w) {b o : Nat} {v : Value} (hv : im b o = some v) : b < w.heap.size:=
  World.block_lt_of_cell? (w:=w) (a:=⟨b,o,none⟩) (h.imc b o v hv)
omit [Base] in
theorem jaE {xs : List D} {sz : Nat} (h : ∀ x,x ∈ xs -> x.cells.length = sz) : (flatC xs).length = xs.length * sz:=by
  induction xs with
  | nil=>simp
  | cons x xs ih=>
    have h0:=h x (by simp)
    have:=ih (fun y hy=>h y (by simp [hy]))
    simp only [flatC] at this ⊢
    simp only [List.flatMap_cons,List.length_append,h0,this,List.length_cons,Nat.succ_mul]
    omega
omit [Base] in
theorem jeK (xs ys : List D) : flatC (xs ++ ys) = flatC xs ++ flatC ys:=by simp [flatC]
omit [Base] in
theorem jbX {xs : List D} {sz : Nat} (h : ∀ x,x ∈ xs -> x.cells.length = sz) : ∀ k,(flatC xs).take (k * sz) = flatC (xs.take k):=by
  induction xs with
  | nil=>intro k;simp
  | cons x xs ih=>
    intro k
    have h0:=h x (by simp)
    cases k with
    | zero=>simp
    | succ k=>
      have:=ih (fun y hy=>h y (by simp [hy])) k
      simp only [flatC] at this ⊢
      simp only [List.flatMap_cons,List.take_succ_cons,Nat.succ_mul]
      rw [List.take_append,List.take_of_length_le (by omega),h0,show k * sz + sz - sz = k * sz by omega,this]
omit [Base] in
theorem jbx {xs : List D} {sz : Nat} (h : ∀ x,x ∈ xs -> x.cells.length = sz) : ∀ k,(flatC xs).drop (k * sz) = flatC (xs.drop k):=by
  induction xs with
  | nil=>intro k;simp
  | cons x xs ih=>
    intro k
    have h0:=h x (by simp)
    cases k with
    | zero=>simp
    | succ k=>
      have:=ih (fun y hy=>h y (by simp [hy])) k
      simp only [flatC] at this ⊢
      simp only [List.flatMap_cons,List.drop_succ_cons,Nat.succ_mul]
      rw [List.drop_append,List.drop_eq_nil_of_le (by omega),h0,show k * sz + sz - sz = k * sz by omega,this,List.nil_append]
omit [Base] in
theorem jcQ {xs : List D} {sz i : Nat} {x : D} (h : ∀ x,x ∈ xs -> x.cells.length = sz) (hi : xs[i]? = some x) : ((flatC xs).drop (i * sz)).take sz = x.cells:=by
  rw [jbx h]
  obtain ⟨hl,rfl⟩:=List.getElem?_eq_some_iff.1 hi
  rw [List.drop_eq_getElem_cons hl]
  simp only [flatC,List.flatMap_cons]
  have:=h xs[i] (List.getElem_mem hl)
  rw [List.take_append_of_le_length (by omega),List.take_of_length_le (by omega)]
omit [Base] in
theorem jin {xs : List D} {sz i : Nat} {y : D} (h : ∀ x,x ∈ xs -> x.cells.length = sz) (hi : i < xs.length) : flatC (xs.set i y) = (flatC xs).take (i * sz) ++ y.cells ++ (flatC xs).drop ((i + 1) * sz):=by
  rw [jbX h,jbx h]
  rw [List.set_eq_take_append_cons_drop,if_pos hi]
  simp [flatC]
section
variable {P : Program}
omit [Base] in
mutual
theorem jbD {ρ : Rho} {n : Nat} {im : Im} : ∀ {v : Value} {d : D},ofV v = some d -> Rep ρ n im v d
  | .bool b,d,h=>by simp [ofV] at h;subst h;exact .bool b
  | .int k m,d,h=>by simp [ofV] at h;subst h;exact .int k m
  | .string s,d,h=>by simp [ofV] at h;subst h;exact .str s
  | .pointer none,d,h=>by simp [ofV] at h;subst h;exact .nilp
  | .pointer (some _),d,h=>by simp [ofV] at h
  | .slice a n c,d,h=>by
    cases a with
    | some a=>simp [ofV] at h
    | none=>
      cases n with
      | succ n=>simp [ofV] at h
      | zero=>
        cases c with
        | succ n=>simp [ofV] at h
        | zero=>simp [ofV] at h;subst h;exact .sl0 none 0 true (fun _=>rfl)
  | .map none,d,h=>by simp [ofV] at h;subst h;exact .nilm
  | .map (some _),d,h=>by simp [ofV] at h
  | .nilFunc,d,h=>by simp [ofV] at h;subst h;exact .niln
  | .nilIface,d,h=>by simp [ofV] at h;subst h;exact .nili
  | .agg ⟨cs⟩,d,h=>by
    simp only [ofV] at h
    split at h
    · rename_i h1
      cases hc : ofVs cs with
      | none=>simp [hc] at h
      | some ds=>simp [hc] at h;subst h;exact .agg cs ds (jkk hc (by simpa using h1))
    · simp at h
  | .func f a c,d,h=>by
    match f,a,c,h with
    | .func f,⟨[]⟩,⟨[]⟩,h=>simp [ofV] at h;subst h;exact .fn f [] [] .nil
    | .func f,⟨[]⟩,⟨_ :: _⟩,h=>simp [ofV] at h
    | .func f,⟨_ :: _⟩,_,h=>simp [ofV] at h
    | .method _,_,_,h=>simp [ofV] at h
    | .methodOf _ _,_,_,h=>simp [ofV] at h
    | .via _ _ _ _,_,_,h=>simp [ofV] at h
    | .yield _,_,_,h=>simp [ofV] at h
  | .tuple a,d,h=>by
    match a,h with
    | ⟨[]⟩,h=>simp [ofV] at h;subst h;exact .tup [] [] .nil
    | ⟨_ :: _⟩,h=>simp [ofV] at h
  | .float _ _,d,h=>by simp [ofV] at h
  | .complex _ _ _,d,h=>by simp [ofV] at h
  | .chan _,d,h=>by simp [ofV] at h
  | .iface _ _,d,h=>by simp [ofV] at h
theorem jkk {ρ : Rho} {n : Nat} {im : Im} : ∀ {vs : List Value} {ds : List D},ofVs vs = some ds -> (∀ v ∈ vs,v.oneCell' = true) -> RepL ρ n im vs ds
  | [],ds,h,_=>by simp [ofVs] at h;subst h;exact .nil
  | v :: vs,ds,h,h1=>by
    simp only [ofVs] at h
    cases hv : ofV v with
    | none=>simp [hv] at h
    | some d=>
      cases hs : ofVs vs with
      | none=>simp [hv,hs] at h
      | some es=>
        simp [hv,hs] at h;subst h
        exact .cons v d vs es (h1 v (by simp)) (jbD hv) (jkk hs (fun u hu=>h1 u (by simp [hu])))
end
omit [Base] in
theorem jcd {t : TypeId} {d : D} (h : zeroT P t = some d) (w : World) : ∃ v,(zeroValue t).run P w = .ok v w /\ ofV v = some d /\ ∀ l,d ≠ .tup l:=by
  unfold zeroT at h
  cases hi : P.info? t with
  | none=>simp [hi] at h
  | some i=>
    simp only [hi,Option.bind_some] at h
    cases hz : i.zero with
    | none=>simp [hz] at h
    | some v=>
      simp only [hz,Option.bind_some] at h
      cases hv : ofV v with
      | none=>simp [hv] at h
      | some d'=>
        simp only [hv,Option.bind_some] at h
        refine ⟨v,by simp [zeroValue,typeInfo,hi,hz],?_⟩
        cases d' <;> simp at h <;> subst h <;> exact ⟨hv,fun l e=>by cases e⟩
end
end Vm
end
section
namespace Vm
open Go Go.RowKit
variable [Base]
omit [Base] in
theorem jat {H : Heap} {ob : Ob} {r : Nat} (h : r < H.length) : hget (H ++ [ob]) r = hget H r:=by
  simp [hget,List.getD,List.getElem?_append_left h]
omit [Base] in
theorem jcL {H : Heap} {ob : Ob} : hget (H ++ [ob]) H.length = ob:=by
  simp [hget,List.getD]
omit [Base] in
theorem jad {H : Heap} {ob : Ob} {r : Nat} (h : r < H.length) : hget (H.set r ob) r = ob:=by
  simp [hget,List.getD,h]
omit [Base] in
theorem jaa {H : Heap} {ob : Ob} {r s : Nat} (h : r ≠ s) : hget (H.set r ob) s = hget H s:=by
  simp [hget,List.getD,List.getElem?_set_ne h]
omit [Base] in
theorem jdX {H : Heap} {r : Nat} {ob : Ob} (h : hget H r = ob) (hd : ob ≠ .dead) : r < H.length:=by
  rcases Nat.lt_or_ge r H.length with h' | h'
  · exact h'
  · simp [hget,List.getD,List.getElem?_eq_none h'] at h;exact absurd h.symm hd
omit [Base] in
theorem RepM.mono {ρ ρ' : Rho} {n n' : Nat} {im im' : Im} (he : ∀ r,OnLt ρ r n -> ρ' r = ρ r) (hn : n <= n') (hi : ImLe im im') : ∀ {ms : List MapEntry} {es : List (D × D)},RepM ρ n im ms es -> RepM ρ' n' im' ms es
  | _,_,.nil=>.nil
  | _,_,.cons m k v ms es hk hv hr=>.cons m k v ms es (hk.mono he hn hi) (hv.mono he hn hi) (RepM.mono he hn hi hr)
omit [Base] in
theorem ObOk.mono {ρ ρ' : Rho} {n n' : Nat} {im im' : Im} {w w' : World} {g : Reg} {ob : Ob} (he : ∀ r,OnLt ρ r n -> ρ' r = ρ r) (hn : n <= n') (hi : ImLe im im')
    (hw : live ob -> w'.heap[g.b]? = w.heap[g.b]?) (h : ObOk ρ n im w g ob) : ObOk ρ' n' im' w' g ob:=by
  cases ob with
  | arr xs=>
    obtain ⟨c,t,fz,h1,h2,h3,h4,h5,h6⟩:=h
    exact ⟨c,t,fz,(hw trivial).trans h1,h2,h3,h4,h5.mono he hn hi,h6⟩
  | fro xs=>
    obtain ⟨vs,h1,h2,h3,h4⟩:=h
    exact ⟨vs,h1,h2,h3.mono he hn hi,jhV (o:=0) hi (by simpa using h4) |> fun h k hk=>by simpa using h k hk⟩
  | map es=>
    obtain ⟨ms,cl,h1,h2⟩:=h
    exact ⟨ms,cl,(hw trivial).trans h1,h2.mono he hn hi⟩
  | loop l=>
    obtain ⟨rec,h1,h2,h3,h4,h5,h6⟩:=h
    exact ⟨rec,(hw trivial).trans h1,h2,h3,h4,fun i=>(h5 i).mono he hn hi,h6⟩
  | dead=>trivial
omit [Base] in
theorem cell?_congr {w w' : World} {b o : Nat} (h : w'.heap[b]? = w.heap[b]?) : w'.cell? ⟨b,o,none⟩ = w.cell? ⟨b,o,none⟩:=World.cell?_of_block (w:=w) h
section
variable {ρ : Rho} {im : Im} {H : Heap} {w w' : World}
theorem Rel.world (h : Rel ρ im H w) (hb : ∀ b,b < w.heap.size -> w'.heap[b]? = w.heap[b]?) : Rel ρ im H w':=by
  refine ⟨fun b o v hv=>?_,fun r hr=>?_,h.sep,h.own,h.base,h.on⟩
  · rw [cell?_congr (hb b (h.im_lt hv))];exact h.imc b o v hv
  · exact (h.obj r hr).mono (fun _ _=>rfl) (Nat.le_refl _) (ImLe.refl _) (fun hl=>hb _ (h.block_lt hr hl))
omit [Base] in
theorem Tr.world (hb : ∀ b,b < w.heap.size -> w'.heap[b]? = w.heap[b]?) (hs : w.heap.size <= w'.heap.size) (ho : w'.os = w.os) (ht : w'.tape = w.tape) (hout : w'.output = w.output) : Tr ρ H w ρ H w':=
  ⟨ho,ht,hout,hs,Nat.le_refl _,fun _ _=>rfl,fun b hb' _=>hb b hb',fun r hr hl _=>⟨r,hr,hl,rfl⟩⟩
theorem Rel.drew (h : Rel ρ im H w) : Rel ρ im H w.drew:=h.world fun _ _=>rfl
omit [Base] in
theorem Tr.drew : Tr ρ H w ρ H w.drew:=Tr.world (fun _ _=>rfl) (Nat.le_refl _) rfl rfl rfl
def newR (ρ : Rho) (n : Nat) (g : Reg) : Rho:=fun r=>if r = n then g else ρ r
omit [Base] in
theorem jaC {n r : Nat} {g : Reg} (h : r < n) : newR ρ n g r = ρ r:=by simp [newR,Nat.ne_of_lt h]
omit [Base] in
theorem jaD {n : Nat} {g : Reg} : newR ρ n g n = g:=by simp [newR]
theorem Rel.push (h : Rel ρ im H w) {g : Reg} {ob : Ob} (hb : ∀ s,s < H.length -> live (hget H s) -> (ρ s).b ≠ g.b) (him : live ob -> ∀ o,im g.b o = none) (hon : g.on = true)
    (ho : ObOk (newR ρ H.length g) (H.length + 1) im w g ob) : Rel (newR ρ H.length g) im (H ++ [ob]) w:=by
  have hl : (H ++ [ob]).length = H.length + 1:=by simp
  refine ⟨h.imc,fun r hr=>?_,fun r s hr hs hne hlr hls=>?_,fun r hr hlr o=>?_,h.base,fun r hr hd=>?_⟩
  rotate_right
  · rw [hl] at hr
    rcases Nat.lt_succ_iff_lt_or_eq.1 hr with h' | h'
    · rw [jat h'] at hd;rw [jaC h'];exact h.on r h' hd
    · subst h';rw [jaD];exact hon
  · rw [hl] at hr ⊢
    rcases Nat.lt_succ_iff_lt_or_eq.1 hr with h' | h'
    · rw [jat h',jaC h']
      exact (h.obj r h').mono (fun s hs=>jaC hs.lt) (by omega) (ImLe.refl _) (fun _=>rfl)
    · subst h';rw [jcL,jaD];exact ho
  · rw [hl] at hr hs
    rcases Nat.lt_succ_iff_lt_or_eq.1 hr with hr' | hr' <;> rcases Nat.lt_succ_iff_lt_or_eq.1 hs with hs' | hs'
    · rw [jat hr'] at hlr;rw [jat hs'] at hls
      rw [jaC hr',jaC hs'];exact h.sep r s hr' hs' hne hlr hls
    · subst hs';rw [jat hr'] at hlr;rw [jaC hr',jaD];exact hb r hr' hlr
    · subst hr';rw [jat hs'] at hls;rw [jaC hs',jaD];exact (hb s hs' hls).symm
    · exact absurd (hr'.trans hs'.symm) hne
  · rw [hl] at hr
    rcases Nat.lt_succ_iff_lt_or_eq.1 hr with hr' | hr'
    · rw [jat hr'] at hlr;rw [jaC hr'];exact h.own r hr' hlr o
    · subst hr';rw [jcL] at hlr;rw [jaD];exact him hlr o
omit [Base] in
theorem Tr.push {g : Reg} {ob : Ob} (hg : live ob -> w.heap.size <= g.b ∨ ∃ s,s < H.length /\ live (hget H s) /\ (ρ s).b = g.b) : Tr ρ H w (newR ρ H.length g) (H ++ [ob]) w:=by
  refine ⟨rfl,rfl,rfl,Nat.le_refl _,by simp,fun r hr=>jaC hr,fun _ _ _=>rfl,fun r hr hl hb=>?_⟩
  simp only [List.length_append,List.length_singleton] at hr
  rcases Nat.lt_succ_iff_lt_or_eq.1 hr with hr' | hr'
  · rw [jat hr'] at hl;exact ⟨r,hr',hl,by rw [jaC hr']⟩
  · subst hr';rw [jcL] at hl;rw [jaD] at hb ⊢
    rcases hg hl with h | h
    · omega
    · exact h
omit [Base] in
theorem jcg {o : Ob} (h : live o) : o ≠ .dead:=fun e=>by subst e;exact h
theorem Rel.onSet (h : Rel ρ im H w) {r : Nat} (hr : r < H.length) (hd : hget H r ≠ .dead) {ob : Ob} : ∀ s,s < (H.set r ob).length -> hget (H.set r ob) s ≠ .dead -> (ρ s).on = true:=fun s hs hn=>by
  rw [List.length_set] at hs
  by_cases e : r = s
  · subst e;exact h.on r hr hd
  · rw [jaa e] at hn;exact h.on s hs hn
theorem Rel.setOb (h : Rel ρ im H w) {r : Nat} (hr : r < H.length) (hl : live (hget H r)) {ob : Ob} (hb : ∀ b,b ≠ (ρ r).b -> w'.heap[b]? = w.heap[b]?)
    (ho : ObOk ρ H.length im w' (ρ r) ob) : Rel ρ im (H.set r ob) w':=by
  have hlen : (H.set r ob).length = H.length:=by simp
  refine ⟨fun b o v hv=>?_,fun s hs=>?_,fun s t hs ht hne hls hlt=>?_,fun s hs hls o=>?_,h.base,h.onSet hr (jcg hl)⟩
  · rw [cell?_congr (hb b (fun e=>by rw [e,h.own r hr hl o] at hv;cases hv))];exact h.imc b o v hv
  · rw [hlen] at hs ⊢
    by_cases e : r = s
    · subst e;rw [jad hr];exact ho
    · rw [jaa e]
      exact (h.obj s hs).mono (fun _ _=>rfl) (Nat.le_refl _) (ImLe.refl _) (fun hls=>hb _ (fun eb=>h.sep r s hr hs e hl hls eb.symm))
  · rw [hlen] at hs ht
    have fix : ∀ s,s < H.length -> live (hget (H.set r ob) s) -> live (hget H s):=fun s hs hls=>by
      by_cases e : r = s
      · subst e;exact hl
      · rwa [jaa e] at hls
    exact h.sep s t hs ht hne (fix s hs hls) (fix t ht hlt)
  · rw [hlen] at hs
    by_cases e : r = s
    · subst e;exact h.own r hr hl o
    · rw [jaa e] at hls;exact h.own s hs hls o
omit [Base] in
theorem Tr.setOb {r : Nat} (hr : r < H.length) (hl : live (hget H r)) {ob : Ob} (hb : ∀ b,b ≠ (ρ r).b -> w'.heap[b]? = w.heap[b]?) (hs : w'.heap.size = w.heap.size)
    (ho : w'.os = w.os) (ht : w'.tape = w.tape) (hout : w'.output = w.output) : Tr ρ H w ρ (H.set r ob) w':=by
  refine ⟨ho,ht,hout,by omega,by simp,fun _ _=>rfl,fun b hbs hn=>hb b (fun e=>hn r hr hl e.symm),fun s hs' hls _=>?_⟩
  rw [List.length_set] at hs'
  by_cases e : r = s
  · subst e;exact ⟨r,hr,hl,rfl⟩
  · rw [jaa e] at hls;exact ⟨s,hs',hls,rfl⟩
def imAdd (im : Im) (b : Nat) (vs : List Value) : Im:=fun b' o=>if b' = b then vs[o]? else im b' o
omit [Base] in
theorem ImLe.add {b : Nat} {vs : List Value} (h : ∀ o,im b o = none) : ImLe im (imAdd im b vs):=by
  refine ⟨fun b' o v hv=>?_⟩
  by_cases e : b' = b
  · subst e;rw [h o] at hv;cases hv
  · simp [imAdd,e,hv]
theorem Rel.freeze (h : Rel ρ im H w) {r : Nat} (hr : r < H.length) {xs : List D} (hx : hget H r = .arr xs) :
    ∃ vs,Rel ρ (imAdd im (ρ r).b vs) (H.set r (.fro xs)) w /\ ImLe im (imAdd im (ρ r).b vs) /\ Tr ρ H w ρ (H.set r (.fro xs)) w:=by
  have hl : live (hget H r):=by rw [hx];trivial
  have hown:=h.own r hr hl
  have hob:=h.obj r hr
  rw [hx] at hob
  obtain ⟨c,t,fz,h1,h2,h3,h4,h5,h6⟩:=hob
  refine ⟨c.toList.take (xs.length * (ρ r).sz),?_,ImLe.add hown,?_⟩
  · have hle:=ImLe.add (im:=im) (vs:=c.toList.take (xs.length * (ρ r).sz)) hown
    refine ⟨fun b o v hv=>?_,fun s hs=>?_,fun s t hs ht hne hls hlt=>?_,fun s hs hls o=>?_,fun b o v hv=>hle.le _ _ _ (h.base _ _ _ hv),h.onSet hr (jcg hl)⟩
    · by_cases e : b = (ρ r).b
      · subst e
        simp only [imAdd,if_true] at hv
        have : c[o]? = some v:=by
          rw [List.getElem?_take] at hv
          split at hv
          · simpa using hv
          · cases hv
        simp [World.cell?,h1,this]
      · simp [imAdd,e] at hv;exact h.imc b o v hv
    · rw [List.length_set] at hs ⊢
      by_cases e : r = s
      · subst e
        rw [jad hr]
        refine ⟨_,h3,h4,h5.mono (fun _ _=>rfl) (Nat.le_refl _) hle,fun k hk=>by simp [imAdd]⟩
      · rw [jaa e]
        exact (h.obj s hs).mono (fun _ _=>rfl) (Nat.le_refl _) hle (fun _=>rfl)
    · rw [List.length_set] at hs ht
      have fix : ∀ s,s < H.length -> live (hget (H.set r (.fro xs)) s) -> live (hget H s):=fun s hs hls=>by
        by_cases e : r = s
        · subst e;exact hl
        · rwa [jaa e] at hls
      exact h.sep s t hs ht hne (fix s hs hls) (fix t ht hlt)
    · rw [List.length_set] at hs
      by_cases e : r = s
      · subst e;rw [jad hr] at hls;exact hls.elim
      · rw [jaa e] at hls
        have:=h.sep r s hr hs e hl hls
        simp [imAdd,this.symm,h.own s hs hls o]
  · exact Tr.setOb hr hl (fun _ _=>rfl) rfl rfl rfl rfl
omit [Base] in
theorem jax {o : Obj} {b : Nat} (h : b < w.heap.size) : (w.alloc o).heap[b]? = w.heap[b]?:=Below.heap_alloc w o b h
omit [Base] in
theorem jb5 {o : Obj} : (w.alloc o).heap[w.heap.size]? = some o:=by show (w.heap.push o)[w.heap.size]? = _;simp
theorem Rel.alloc (h : Rel ρ im H w) {sz cap : Nat} {xs : List D} {c : Array Value} {t : TypeId} {fz : Nat × Nat} (h2 : c.size = cap * sz) (h3 : ∀ x,x ∈ xs -> x.cells.length = sz)
    (h4 : xs.length <= cap) (h5 : RepL ρ H.length im (c.toList.take (xs.length * sz)) (flatC xs)) (h6 : c.size <= fz.1 ∨ fz.2 <= fz.1) :
    Rel (newR ρ H.length ⟨w.heap.size,sz,cap,true⟩) im (H ++ [.arr xs]) (w.alloc (.cells c t fz)) /\ Tr ρ H w (newR ρ H.length ⟨w.heap.size,sz,cap,true⟩) (H ++ [.arr xs]) (w.alloc (.cells c t fz)):=by
  have hw : Rel ρ im H (w.alloc (.cells c t fz)):=h.world fun b hb=>jax hb
  have him : ∀ o,im w.heap.size o = none:=fun o=>by
    cases e : im w.heap.size o with
    | none=>rfl
    | some v=>have:=h.im_lt e;omega
  constructor
  · refine hw.push (fun s hs hl=>?_) (fun _=>him) rfl ⟨c,t,fz,jb5,h2,h3,h4,h5.mono (fun r hr=>jaC hr.lt) (by omega) (ImLe.refl _),h6⟩
    have:=h.block_lt hs hl
    simp;omega
  · refine ⟨rfl,rfl,rfl,by simp,by simp,fun r hr=>jaC hr,fun b hb _=>jax hb,fun r hr hl hb=>?_⟩
    simp only [List.length_append,List.length_singleton] at hr
    rcases Nat.lt_succ_iff_lt_or_eq.1 hr with hr' | hr'
    · rw [jat hr'] at hl;exact ⟨r,hr',hl,by rw [jaC hr']⟩
    · subst hr';rw [jaD] at hb;simp at hb
theorem Rel.allocMap (h : Rel ρ im H w) {clock : Nat} :
    Rel (newR ρ H.length ⟨w.heap.size,0,0,true⟩) im (H ++ [.map []]) (w.alloc (.map #[] clock)) /\ Tr ρ H w (newR ρ H.length ⟨w.heap.size,0,0,true⟩) (H ++ [.map []]) (w.alloc (.map #[] clock)):=by
  have hw : Rel ρ im H (w.alloc (.map #[] clock)):=h.world fun b hb=>jax hb
  have him : ∀ o,im w.heap.size o = none:=fun o=>by
    cases e : im w.heap.size o with
    | none=>rfl
    | some v=>have:=h.im_lt e;omega
  constructor
  · refine hw.push (fun s hs hl=>?_) (fun _=>him) rfl ⟨#[],clock,jb5,.nil⟩
    have:=h.block_lt hs hl
    simp;omega
  · refine ⟨rfl,rfl,rfl,by simp,by simp,fun r hr=>jaC hr,fun b hb _=>jax hb,fun r hr hl hb=>?_⟩
    simp only [List.length_append,List.length_singleton] at hr
    rcases Nat.lt_succ_iff_lt_or_eq.1 hr with hr' | hr'
    · rw [jat hr'] at hl;exact ⟨r,hr',hl,by rw [jaC hr']⟩
    · subst hr';rw [jaD] at hb;simp at hb
def setMany (c : Array Value) : Nat -> List Value -> Array Value
  | _,[]=>c
  | o,v :: r=>setMany (c.setIfInBounds o v) (o + 1) r
omit [Base] in
theorem jbM (vs : List Value) : ∀ (c : Array Value) (o : Nat),(setMany c o vs).size = c.size:=by
  induction vs with
  | nil=>intros;rfl
  | cons v r ih=>intro c o;simp [setMany,ih]
omit [Base] in
theorem jbS (vs : List Value) : ∀ (c : Array Value) (o : Nat),o + vs.length <= c.size -> (setMany c o vs).toList = c.toList.take o ++ vs ++ c.toList.drop (o + vs.length):=by
  induction vs with
  | nil=>intro c o _;simp [setMany]
  | cons v r ih=>
    intro c o h
    simp only [List.length_cons] at h
    rw [setMany,ih _ _ (by simp;omega)]
    simp only [Array.toList_setIfInBounds,List.length_cons]
    have hlt : o < c.toList.length:=by simp;omega
    have h1 : (c.toList.set o v).take (o + 1) = c.toList.take o ++ [v]:=by
      rw [List.set_eq_take_append_cons_drop,if_pos hlt,List.take_append,List.take_of_length_le (by simp;omega)]
      have : o + 1 - (c.toList.take o).length = 1:=by simp at hlt ⊢;omega
      rw [this];simp
    rw [h1,List.drop_set_of_lt (by omega),show o + 1 + r.length = o + (r.length + 1) by omega]
    simp
omit [Base] in
theorem jez (b : Nat) (vs : List Value) : ∀ (o : Nat) (w : World) (c : Array Value) (t : TypeId) (fz : Nat × Nat),w.heap[b]? = some (.cells c t fz) -> (w.setCells b o vs).heap[b]? = some (.cells (setMany c o vs) t fz):=by
  induction vs with
  | nil=>intro o w c t fz h;exact h
  | cons v r ih=>
    intro o w c t fz h
    rw [World.setCells,setMany]
    exact ih (o + 1) _ _ t fz (by simp [World.setCell,Array.getElem?_modify,h])
omit [Base] in
theorem jcf (b : Nat) (vs : List Value) : ∀ (o : Nat) (w : World) (b' : Nat),b' ≠ b -> (w.setCells b o vs).heap[b']? = w.heap[b']?:=by
  induction vs with
  | nil=>intros;rfl
  | cons v r ih=>
    intro o w b' h
    rw [World.setCells,ih _ _ _ h]
    exact Below.heap_setCell _ _ _ _ h
omit [Base] in
theorem jcZ (b : Nat) (vs : List Value) : ∀ (o : Nat) (w : World),(w.setCells b o vs).heap.size = w.heap.size /\ (w.setCells b o vs).os = w.os /\ (w.setCells b o vs).tape = w.tape /\ (w.setCells b o vs).output = w.output:=by
  induction vs with
  | nil=>intro o w;exact ⟨rfl,rfl,rfl,rfl⟩
  | cons v r ih=>
    intro o w
    obtain ⟨h1,h2,h3,h4⟩:=ih (o + 1) (w.setCell ⟨b,o,none⟩ v)
    rw [World.setCells]
    exact ⟨by rw [h1];simp,by rw [h2];rfl,by rw [h3];rfl,by rw [h4];rfl⟩
end
end Vm
end
section
namespace Vm
open Go Go.RowKit
variable [Base]
omit [Base] in
theorem jaU (b o k : Nat) : (⟨b,o,none⟩ : Addr).add k = ⟨b,o + k,none⟩:=by unfold Addr.add;split <;> simp_all
omit [Base] in
theorem jmj {α : Type} (L V : List α) (a j s N dl : Nat) (h : a + s <= N) (hN : N <= L.length) (hj : j + dl <= s) (hV : V.length = dl) :
    (L.take (a + j) ++ V ++ L.drop (a + j + dl)).take N =
      (L.take N).take a ++ ((((L.take N).drop a).take s).take j ++ V ++ (((L.take N).drop a).take s).drop (j + dl)) ++ (L.take N).drop (a + s):=by
  apply List.ext_getElem?
  intro k
  simp only [List.getElem?_append,List.getElem?_take,List.getElem?_drop,List.length_append,List.length_take,List.length_drop,hV]
  grind
section
variable {P : Program} {ρ : Rho} {im : Im} {H : Heap} {w : World} {n : Nat}
structure PartV (P : Program) (t : TypeId) (vs : List Value) (j : Nat) (v : Value) : Prop where
  ex : ∃ n ag,sizeT P t = some n /\ isAggT P t = some ag /\ j + n <= vs.length /\ (ag = true -> v = .agg ⟨(vs.drop j).take n⟩) /\ (ag = false -> n = 1 /\ vs[j]? = some v)
omit [Base] in
theorem jeG {t : TypeId} {cs : List D} {vs : List Value} {j : Nat} {d : D} (h : partD P t cs j = some d) (hr : RepL ρ n im vs cs) : ∃ v,PartV P t vs j v /\ Rep ρ n im v d:=by
  unfold partD at h
  cases hs : sizeT P t with
  | none=>simp [hs] at h
  | some m=>
    cases ha : isAggT P t with
    | none=>simp [hs,ha] at h
    | some ag=>
      simp only [hs,ha,Option.bind_some] at h
      split at h
      · rename_i hle
        cases ag with
        | true=>
          simp at h;subst h
          exact ⟨.agg ⟨(vs.drop j).take m⟩,⟨m,true,hs,ha,by rw [hr.length];exact hle,fun _=>rfl,(fun h=>by cases h)⟩,.agg _ _ ((hr.drop j).take m)⟩
        | false=>
          simp only [Bool.false_eq_true,if_false] at h
          split at h
          · rename_i h1
            obtain ⟨v,hv,_,hrep⟩:=hr.get h
            exact ⟨v,⟨m,false,hs,ha,by rw [hr.length];exact hle,(fun h=>by cases h),fun _=>⟨h1,hv⟩⟩,hrep⟩
          · cases h
      · cases h
omit [Base] in
theorem je7 {t : TypeId} {x : D} {vs : List Value} {j : Nat} {d : D} (h : partE P t x j = some d) (hr : RepL ρ n im vs x.cells) : ∃ v,PartV P t vs j v /\ Rep ρ n im v d:=by
  unfold partE at h
  cases hs : sizeT P t with
  | none=>simp [hs] at h
  | some m=>
    cases ha : isAggT P t with
    | none=>simp [hs,ha] at h
    | some ag=>
      simp only [hs,ha,Option.bind_some] at h
      split at h
      · rename_i hc
        obtain ⟨rfl,hl,hq⟩:=hc
        simp at h;subst h
        have hlen:=hr.length
        cases ag with
        | true=>
          cases x <;> simp [aggQ] at hq
          rename_i cs
          refine ⟨.agg ⟨vs⟩,⟨m,true,hs,ha,by omega,fun _=>?_,(fun h=>by cases h)⟩,.agg vs cs hr⟩
          simp;rw [List.take_of_length_le (by omega)]
        | false=>
          have hx : x.cells = [x]:=by cases x <;> simp [aggQ] at hq <;> rfl
          rw [hx] at hr hl hlen
          cases hr with
          | cons v d vs ds h1 h hr=>
            cases hr
            exact ⟨v,⟨m,false,hs,ha,by simp at hl ⊢;omega,(fun h=>by cases h),fun _=>⟨by simpa using hl.symm,rfl⟩⟩,h⟩
      · exact jeG h hr
omit [Base] in
theorem jdn          {t : TypeId} {vs : List Value} {j b p : Nat} {v : Value} (h : PartV P t vs j v) (hc : ∀ k, k < vs.length → w.cell? ⟨b, p + k, none⟩ = vs[k]?) :
    (Instr.loadAt t (.pointer (some ⟨b,p + j,none⟩))).run P w = .ok v w:=by
  obtain ⟨m,ag,hs,ha,hle,h1,h2⟩:=h.ex
  unfold Instr.loadAt loadVar
  simp only [Instr.sureAddr,Sem.run_bind,Sem.run_pure,Result.andThen_ok,jbG ha,Sem.run_ite,jaP hs]
  cases ag with
  | true=>
    have e:=h1 rfl
    subst e
    have hl : ((vs.drop j).take m).length = m:=by simp;omega
    have:=run_loadCells_list (P:=P) w ⟨b,p + j,none⟩ ((vs.drop j).take m) (fun k u hu=>by
      rw [jaU]
      rw [List.getElem?_take] at hu
      split at hu
      · rw [List.getElem?_drop] at hu
        rw [Nat.add_assoc,hc (j + k) (by omega)];exact hu
      · cases hu)
    rw [hl] at this
    simp [this]
  | false=>
    obtain ⟨rfl,hv⟩:=h2 rfl
    have:=hc j (by omega)
    simp [this,hv]
theorem jiz {t : TypeId} {p d : D} {pv : Value} (hR : Rel ρ im H w) (hp : Rep ρ H.length im pv p) (h : loadD P t H p = some d) :
    ∃ v,(Instr.loadAt t pv).run P w = .ok v w /\ Rep ρ H.length im v d:=by
  cases hp with
  | ptr r i j hr=>
    simp only [loadD] at h
    have hob:=hR.obj r hr.lt
    cases hx : hget H r with
    | dead=>simp [hx] at h
    | loop l=>simp [hx] at h
    | map es=>simp [hx] at h
    | arr xs=>
      rw [hx] at hob
      simp only [hx] at h
      cases hi : xs[i]? with
      | none=>simp [hi] at h
      | some x=>
        simp [hi] at h
        obtain ⟨c,ty,fz,h1,h2,h3,h4,h5,h6⟩:=hob
        have hxl:=h3 x (List.mem_of_getElem? hi)
        have hil:=(List.getElem?_eq_some_iff.1 hi).1
        have hsub : RepL ρ H.length im (((c.toList.take (xs.length * (ρ r).sz)).drop (i * (ρ r).sz)).take (ρ r).sz) x.cells:=by
          have:=(h5.drop (i * (ρ r).sz)).take (ρ r).sz
          rwa [jcQ h3 hi] at this
        obtain ⟨v,hpv,hrep⟩:=je7 h hsub
        refine ⟨v,?_,hrep⟩
        refine jdn hpv (fun k hk=>?_)
        have hk' : k < (ρ r).sz:=by have:=hsub.length;omega
        have hm : (i + 1) * (ρ r).sz <= xs.length * (ρ r).sz:=Nat.mul_le_mul_right _ hil
        rw [Nat.add_mul,Nat.one_mul] at hm
        rw [List.getElem?_take_of_lt hk',List.getElem?_drop,List.getElem?_take_of_lt (by omega)]
        simp [World.cell?,h1]
    | fro xs=>
      rw [hx] at hob
      simp only [hx] at h
      cases hi : xs[i]? with
      | none=>simp [hi] at h
      | some x=>
        simp [hi] at h
        obtain ⟨vs,h1,h2,h3,h4⟩:=hob
        have hil:=(List.getElem?_eq_some_iff.1 hi).1
        have hsub : RepL ρ H.length im ((vs.drop (i * (ρ r).sz)).take (ρ r).sz) x.cells:=by
          have:=(h3.drop (i * (ρ r).sz)).take (ρ r).sz
          rwa [jcQ h1 hi] at this
        obtain ⟨v,hpv,hrep⟩:=je7 h hsub
        refine ⟨v,jdn hpv (fun k hk=>?_),hrep⟩
        have hk' : k < (ρ r).sz:=by have:=hsub.length;have:=h1 x (List.mem_of_getElem? hi);omega
        have hm : (i + 1) * (ρ r).sz <= xs.length * (ρ r).sz:=Nat.mul_le_mul_right _ hil
        rw [Nat.add_mul,Nat.one_mul] at hm
        have hvl : vs.length = xs.length * (ρ r).sz:=by rw [h3.length,jaE h1]
        rw [List.getElem?_take_of_lt hk',List.getElem?_drop]
        have h5:=h4 (i * (ρ r).sz + k) (by omega)
        rw [List.getElem?_eq_getElem (by omega)] at h5 ⊢
        exact hR.imc _ _ _ h5
  | ept b o x j vs hc hl=>
    simp only [loadD] at h
    obtain ⟨v,hpv,hrep⟩:=je7 h hl
    refine ⟨v,jdn hpv (fun k hk=>?_),hrep⟩
    have:=hc k hk
    rw [List.getElem?_eq_getElem hk] at this ⊢
    exact hR.imc _ _ _ this
  | _=>simp [loadD] at h
omit [Base] in
theorem jrV {x d y : D} {j : Nat} {v : Value} (h : setE x j d = some y) (hv : Rep ρ n im v d) :
    j + d.cells.length <= x.cells.length /\ RepL ρ n im v.cells.toList d.cells /\ y.cells.length = x.cells.length /\
      ∀ {vs : List Value},RepL ρ n im vs x.cells -> RepL ρ n im (vs.take j ++ v.cells.toList ++ vs.drop (j + d.cells.length)) y.cells:=by
  unfold setE at h
  split at h
  · cases h
  · rename_i hnt
    have hc : RepL ρ n im v.cells.toList d.cells:=hv.cells (fun l e=>by subst e;simp [noTup] at hnt)
    split at h
    · rename_i hw
      obtain ⟨rfl,hl,_⟩:=hw
      simp at h;subst h
      refine ⟨by omega,hc,hl,fun hvs=>?_⟩
      have:=hvs.length
      simp only [List.take_zero,List.nil_append,Nat.zero_add]
      rw [List.drop_eq_nil_of_le (by omega),List.append_nil];exact hc
    · split at h
      · rename_i hle
        simp at h;subst h
        refine ⟨hle.1,hc,?_,fun hvs=>?_⟩
        · show (spliceL x.cells j d.cells).length = _
          simp only [spliceL,List.length_append,List.length_take,List.length_drop];omega
        · show RepL ρ n im _ (spliceL x.cells j d.cells)
          simpa [spliceL] using ((hvs.take j).append hc).append (hvs.drop (j + d.cells.length))
      · cases h
theorem ji3 {r i j : Nat} {xs : List D} {x y d : D} {v : Value} (hR : Rel ρ im H w) (hr : r < H.length) (hx : hget H r = .arr xs) (hi : xs[i]? = some x) (hy : setE x j d = some y) (hv : Rep ρ H.length im v d) :
    RepL ρ H.length im v.cells.toList d.cells /\ (∀ k,k < v.cells.toList.length -> (w.cell? ⟨(ρ r).b,i * (ρ r).sz + j + 0 + k,none⟩).isSome = true) /\ (∀ k,k < v.cells.toList.length -> w.frozen? ⟨(ρ r).b,i * (ρ r).sz + j + 0 + k,none⟩ = false) /\
      Rel ρ im (H.set r (.arr (xs.set i y))) (w.setCells (ρ r).b (i * (ρ r).sz + j) v.cells.toList) /\ Tr ρ H w ρ (H.set r (.arr (xs.set i y))) (w.setCells (ρ r).b (i * (ρ r).sz + j) v.cells.toList):=by
  have hob:=hR.obj r hr
  rw [hx] at hob
  have hl : live (hget H r):=by rw [hx];trivial
  obtain ⟨hjle,hcells,hylen,hput⟩:=jrV hy hv
  obtain ⟨c,ty,fz,h1,h2,h3,h4,h5,h6⟩:=hob
  have hxl:=h3 x (List.mem_of_getElem? hi)
  have hil:=(List.getElem?_eq_some_iff.1 hi).1
  have hm : (i + 1) * (ρ r).sz <= xs.length * (ρ r).sz:=Nat.mul_le_mul_right _ hil
  have hcap : xs.length * (ρ r).sz <= (ρ r).cap * (ρ r).sz:=Nat.mul_le_mul_right _ h4
  rw [Nat.add_mul,Nat.one_mul] at hm
  have hvl : v.cells.toList.length = d.cells.length:=hcells.length
  refine ⟨hcells,fun k hk=>?_,fun k hk=>?_,?_,?_⟩
  · have : i * (ρ r).sz + j + 0 + k < c.size:=by omega
    simp [World.cell?,h1];omega
  · have hlt : i * (ρ r).sz + j + 0 + k < c.size:=by omega
    simp only [World.frozen?,h1]
    simp only [Bool.and_eq_false_iff,decide_eq_false_iff_not]
    omega
  · obtain ⟨e1,e2,e3,e4⟩:=jcZ (ρ r).b v.cells.toList (i * (ρ r).sz + j) w
    refine hR.setOb hr hl (fun b hb=>jcf _ _ _ _ _ hb) ⟨_,ty,fz,jez _ _ _ _ _ _ _ h1,?_,?_,?_,?_,?_⟩
    · rw [jbM,h2]
    · intro z hz
      rcases List.mem_or_eq_of_mem_set hz with hz | hz
      · exact h3 z hz
      · subst hz;omega
    · simpa using h4
    · rw [List.length_set,jin h3 hil,jbS _ _ _ (by omega),hcells.length]
      have hx5 : RepL ρ H.length im (((c.toList.take (xs.length * (ρ r).sz)).drop (i * (ρ r).sz)).take (ρ r).sz) x.cells:=by
        have:=(h5.drop (i * (ρ r).sz)).take (ρ r).sz
        rwa [jcQ h3 hi] at this
      have key:=((h5.take (i * (ρ r).sz)).append (hput hx5)).append (h5.drop ((i + 1) * (ρ r).sz))
      have e : List.take (xs.length * (ρ r).sz) (List.take (i * (ρ r).sz + j) c.toList ++ v.cells.toList ++ List.drop (i * (ρ r).sz + j + d.cells.length) c.toList) =
          List.take (i * (ρ r).sz) (List.take (xs.length * (ρ r).sz) c.toList) ++ (List.take j (List.take (ρ r).sz (List.drop (i * (ρ r).sz) (List.take (xs.length * (ρ r).sz) c.toList))) ++ v.cells.toList ++
            List.drop (j + d.cells.length) (List.take (ρ r).sz (List.drop (i * (ρ r).sz) (List.take (xs.length * (ρ r).sz) c.toList)))) ++ List.drop ((i + 1) * (ρ r).sz) (List.take (xs.length * (ρ r).sz) c.toList):=by
        rw [Nat.add_mul,Nat.one_mul]
        exact jmj _ _ _ _ _ _ _ hm (by simp;omega) (by omega) (by omega)
      rw [e];exact key
    · rw [jbM];exact h6
  · obtain ⟨e1,e2,e3,e4⟩:=jcZ (ρ r).b v.cells.toList (i * (ρ r).sz + j) w
    exact Tr.setOb hr hl (fun b hb=>jcf _ _ _ _ _ hb) e1 e2 e3 e4
theorem jns {t : TypeId} {p d : D} {pv v : Value} {H' : Heap} (hR : Rel ρ im H w) (hp : Rep ρ H.length im pv p) (hv : Rep ρ H.length im v d) (h : storeD P t H p d = some H') :
    ∃ w',(Instr.storeAt t pv v).run P w = .ok () w' /\ Rel ρ im H' w' /\ Tr ρ H w ρ H' w':=by
  cases hp with
  | ptr r i j hr=>
    simp only [storeD] at h
    have hob:=hR.obj r hr.lt
    cases hx : hget H r with
    | dead=>simp [hx] at h
    | loop l=>simp [hx] at h
    | map es=>simp [hx] at h
    | fro xs=>simp [hx] at h
    | arr xs=>
      rw [hx] at hob
      simp only [hx] at h
      have hl : live (hget H r):=by rw [hx];trivial
      cases hs : sizeS P t with
      | none=>simp [hs] at h
      | some m=>
        simp only [hs,Option.bind_some] at h
        split at h
        · rename_i hcm
          cases hi : xs[i]? with
          | none=>simp [hi] at h
          | some x=>
            cases hy : setE x j d with
            | none=>simp [hi,hy] at h
            | some y=>
              simp [hi,hy] at h;subst h
              obtain ⟨hcells,hcell,hfr,q1,q2⟩:=ji3 hR hr.lt hx hi hy hv
              have hvl : v.cells.toList.length = m:=by rw [hcells.length,hcm]
              have hvs : v.cells.size = m:=by simpa using hvl
              have hrun:=run_storeCells_cells (P:=P) (ρ r).b (i * (ρ r).sz + j) v.cells.toList 0 w hcell hfr hcells.one
              refine ⟨w.setCells (ρ r).b (i * (ρ r).sz + j) v.cells.toList,?_,q1,q2⟩
              unfold Instr.storeAt storeVar
              simp only [Instr.sureAddr,Sem.run_bind,Sem.run_pure,Result.andThen_ok,ji8 hs,Sem.run_ite]
              rw [if_neg (by simp [hvs])]
              simpa using hrun
        · cases h
  | _=>simp [storeD] at h
end
end Vm
end
section
namespace Vm
open Go Go.RowKit
variable [Base]
structure Mv (ρ : Rho) (im : Im) (H : Heap) (w : World) (ρ' : Rho) (im' : Im) (H' : Heap) (w' : World) : Prop where
  rel : Rel ρ' im' H' w'
  le : ImLe im im'
  tr : Tr ρ H w ρ' H' w'
  nu : ∀ b o v,im' b o = some v -> im b o = some v ∨ w.heap.size <= b ∨ ∃ r,r < H.length /\ live (hget H r) /\ (ρ r).b = b
theorem Mv.refl {ρ : Rho} {im : Im} {H : Heap} {w : World} (h : Rel ρ im H w) : Mv ρ im H w ρ im H w:=⟨h,ImLe.refl _,Tr.refl _ _ _,fun _ _ _ h=>.inl h⟩
theorem Mv.trans {ρ ρ1 ρ2 : Rho} {im im1 im2 : Im} {H H1 H2 : Heap} {w w1 w2 : World} (h : Mv ρ im H w ρ1 im1 H1 w1) (k : Mv ρ1 im1 H1 w1 ρ2 im2 H2 w2) : Mv ρ im H w ρ2 im2 H2 w2:=
  ⟨k.rel,h.le.trans k.le,h.tr.trans k.tr,fun b o v hv=>by
    rcases k.nu b o v hv with h1 | h1 | ⟨s,hs,hl,e⟩
    · exact h.nu b o v h1
    · exact .inr (.inl (Nat.le_trans h.tr.size h1))
    · rcases Nat.lt_or_ge b w.heap.size with hb | hb
      · obtain ⟨s',hs',hl',e'⟩:=h.tr.own s hs hl (by omega)
        exact .inr (.inr ⟨s',hs',hl',by omega⟩)
      · exact .inr (.inl hb)⟩
theorem Mv.rep {ρ ρ1 : Rho} {im im1 : Im} {H H1 : Heap} {w w1 : World} (h : Mv ρ im H w ρ1 im1 H1 w1) {v : Value} {d : D} (k : Rep ρ H.length im v d) : Rep ρ1 H1.length im1 v d:=k.mono (fun r h9=>h.tr.ext r h9.lt) h.tr.len h.le
theorem Mv.repA {ρ ρ1 : Rho} {im im1 : Im} {H H1 : Heap} {w w1 : World} (h : Mv ρ im H w ρ1 im1 H1 w1) {v : List Value} {d : List D} (k : RepA ρ H.length im v d) : RepA ρ1 H1.length im1 v d:=k.mono (fun r h9=>h.tr.ext r h9.lt) h.tr.len h.le
inductive OutR (ρ : Rho) (im : Im) (H : Heap) (w : World) : R -> Ending -> World -> Prop
  | ok (ρ' : Rho) (im' : Im) (H' : Heap) (w' : World) (v : Value) (d : D) (hm : Mv ρ im H w ρ' im' H' w') (hv : Rep ρ' H'.length im' v d) : OutR ρ im H w (.ok d H') (.returned v) w'
  | pan (ρ' : Rho) (im' : Im) (H' : Heap) (w' : World) (v : Value) (d : D) (hm : Mv ρ im H w ρ' im' H' w') (hv : Rep ρ' H'.length im' v d) : OutR ρ im H w (.pan d H') (.panicked [{ v,recovered:=false }]) w'
def FW (ro : Option Nat) : Fence:={ Fence.wide with round:=ro }
omit [Base] in
omit [Base] in
theorem jdk {ro : Option Nat} {n : Nat} : (FW ro).depth.isSome = true -> 1 <= n:=fun h=>by simp [FW,Fence.wide] at h
structure EnvR (ρ : Rho) (n : Nat) (im : Im) (N : Nat) (a : Act) (e : Env) : Prop where
  size : a.tmps.size = N
  get : ∀ i,Rep ρ n im (a.tmps.getD i undef) (e i)
section
variable {P : Program} {ρ : Rho} {im : Im} {H : Heap} {w : World} {N n : Nat} {a : Act} {e : Env}
omit [Base] in
theorem jai (he : EnvR ρ n im N a e) {o : Operand} {d : D} (h : evalO e o = some d) : Rep ρ n im (a.eval o) d:=by
  cases o with
  | tmp t=>simp [evalO] at h;subst h;exact he.get t
  | const v=>exact jbD h
  | global g=>simp [evalO] at h
  | func f=>simp [evalO] at h;subst h;exact .fn f [] [] .nil
omit [Base] in
theorem jcA (he : EnvR ρ n im N a e) : ∀ {l : List Operand} {ds : List D},evalOs e l = some ds -> RepA ρ n im (l.map a.eval) ds
  | [],ds,h=>by simp [evalOs] at h;subst h;exact .nil
  | o :: r,ds,h=>by
    simp only [evalOs] at h
    cases h0 : evalO e o with
    | none=>simp [h0] at h
    | some d=>
      cases h1 : evalOs e r with
      | none=>simp [h0,h1] at h
      | some es=>simp [h0,h1] at h;subst h;exact .cons _ _ _ _ (jai he h0) (jcA he h1)
omit [Base] in
theorem EnvR.mono {ρ' : Rho} {n' : Nat} {im' : Im} (he : EnvR ρ n im N a e) (h1 : ∀ r,OnLt ρ r n -> ρ' r = ρ r) (h2 : n <= n') (h3 : ImLe im im') : EnvR ρ' n' im' N a e:=
  ⟨he.size,fun i=>(he.get i).mono h1 h2 h3⟩
theorem Mv.env {ρ1 : Rho} {im1 : Im} {H1 : Heap} {w1 : World} (h : Mv ρ im H w ρ1 im1 H1 w1) (he : EnvR ρ H.length im N a e) : EnvR ρ1 H1.length im1 N a e:=he.mono (fun r h9=>h.tr.ext r h9.lt) h.tr.len h.le
omit [Base] in
theorem EnvR.put (he : EnvR ρ n im N a e) {i : Option Nat} {v : Value} {d : D} (hi : dstOk N i = true) (hv : Rep ρ n im v d) : EnvR ρ n im N (a.put i v) (putO e i d):=by
  cases i with
  | none=>exact he
  | some i=>
    simp only [dstOk,decide_eq_true_eq] at hi
    refine ⟨by simp [Act.put,he.size],fun j=>?_⟩
    simp only [Act.put,putO,Vm.put]
    by_cases hj : j = i
    · subst hj
      simpa [Array.getD_eq_getD_getElem?,he.size,hi] using hv
    · have:=he.get j
      simpa [Array.getD_eq_getD_getElem?,Array.getElem?_setIfInBounds_ne (Ne.symm hj),hj] using this
omit [Base] in
theorem jdT : Rep ρ n im undef ud:=.tup [] [] .nil
def OpOk (P : Program) (ρ : Rho) (im : Im) (H : Heap) (w : World) (a : Act) (o : Oper) (r : R) : Prop:=
  ∀ (ro : Option Nat) (n : Nat) (K : Act -> World -> Prop) (Q : Exit -> Act -> World -> Prop),
    (∀ v w',OutR ρ im H w r (.returned v) w' -> K (a.put o.dst v) w') -> (∀ ch w',OutR ρ im H w r (.panicked ch) w' -> Q (.panic ch) a w') -> o.wpIn (FW ro) n P a w K Q
omit [Base] in
theorem ju2 {ρ : Operand -> Value} {o : Oper} {w w' : World} {x : Next} (h : (execOp ρ o).run P w = .ok x w') (hx : ∀ d,x ≠ .defer d) : ∀ c,o.op ≠ .defer c:=by
  intro c hc
  simp only [execOp,hc,Sem.run_bind] at h
  cases hr : (resolve ρ c o.type).run P w with
  | ok d w1=>
    simp [hr] at h
    exact hx d h.1.symm
  | halt _ _=>simp [hr] at h
omit [Base] in
theorem jce {o : Oper} {w w' : World} {x : Next} {ro : Option Nat} {n : Nat} {K : Act -> World -> Prop} {Q : Exit -> Act -> World -> Prop} (h : (execOp a.eval o).run P w = .ok x w') (hx : ∀ d,x ≠ .defer d) (hu : o.uponIn (FW ro) n P a K Q (.ok x w')) :
    o.wpIn (FW ro) n P a w K Q:=by
  refine ⟨fun f _=>trivial,?_⟩
  rw [Oper.semAt_eq _ _ _ (ju2 h hx),h]
  exact hu
theorem ja0 {o : Oper} {v : Value} {d : D} {ρ' : Rho} {im' : Im} {H' : Heap} {w' : World} (h : (execOp a.eval o).run P w = .ok (.value v) w') (hm : Mv ρ im H w ρ' im' H' w') (hv : Rep ρ' H'.length im' v d) :
    OpOk P ρ im H w a o (.ok d H'):=by
  intro ro n K Q hK _
  exact jce h (fun d h=>by cases h) (hK v w' (.ok ρ' im' H' w' v d hm hv))
theorem jo9 {o : Oper} {v : Value} {d : D} (hR : Rel ρ im H w) (h : (execOp a.eval o).run P w = .ok (.value v) w) (hv : Rep ρ H.length im v d) : OpOk P ρ im H w a o (.ok d H):=
  ja0 h (Mv.refl hR) hv
theorem jeJ {o : Oper} {ρ' : Rho} {im' : Im} {H' : Heap} {w' : World} (h : (execOp a.eval o).run P w = .ok .skip w') (hm : Mv ρ im H w ρ' im' H' w') : OpOk P ρ im H w a o (.ok ud H'):=by
  intro ro n K Q hK _
  exact jce h (fun d h=>by cases h) (hK undef w' (.ok ρ' im' H' w' undef ud hm jdT))
omit [Base] in
theorem Rep.int_inv {v : Value} {k : IntKind} {m : Int} (h : Rep ρ n im v (.int k m)) : v = .int k m:=by cases h;rfl
omit [Base] in
theorem Rep.bool_inv {v : Value} {b : Bool} (h : Rep ρ n im v (.bool b)) : v = .bool b:=by cases h;rfl
omit [Base] in
theorem Rep.str_inv {v : Value} {s : List UInt8} (h : Rep ρ n im v (.str s)) : ∃ t,v = .string t /\ t.data.toList = s:=by cases h;exact ⟨_,rfl,rfl⟩
end
end Vm
end
section
namespace Vm
open Go Go.RowKit
section
variable {P : Program} {ρ : Rho} {im : Im} {w : World} {n : Nat}
theorem jml {op : BinOp} {t : TypeId} {ox oy : Operand} {k k' : IntKind} {x y : Int} : (eqGuard op t ox oy (.int k x) (.int k' y)).run P w = .ok () w:=by
  cases op <;> simp [eqGuard]
theorem jwb {op : BinOp} {k k' : IntKind} {x y : Int} {t : TypeId} {d : D} (h : binD P op t (.int k x) (.int k' y) = some d) : ∃ v,(binOp op t (.int k x) (.int k' y)).run P w = .ok v w /\ Rep ρ n im v d:=by
  have hsh : ∀ {op : BinOp},shiftD op k x y = some d -> ∃ v,(Op.shift op k x k' y).run P w = .ok v w /\ Rep ρ n im v d:=by
    intro op h
    unfold shiftD at h
    split at h
    · cases h
    · rename_i hy
      cases op <;> simp at h <;> subst h <;> exact ⟨_,by simp [Op.shift,hy],.int _ _⟩
  cases op
  case shl=>exact hsh (op:=.shl) h
  case shr=>exact hsh (op:=.shr) h
  all_goals
    simp only [binD] at h
    split at h
    · rename_i hk
      subst hk
      simp only [intBin] at h
      first
        | (simp only [Option.some.injEq] at h;subst h;refine ⟨_,?_,.int _ _⟩;simp only [binOp,ne_eq,not_true_eq_false,if_false];rfl)
        | (simp only [Option.some.injEq] at h;subst h;refine ⟨_,?_,.bool _⟩;simp only [binOp,ne_eq,not_true_eq_false,if_false];rfl)
        | (split at h
           · cases h
           · rename_i hy;simp only [Option.some.injEq] at h;subst h;refine ⟨_,?_,.int _ _⟩;simp only [binOp,ne_eq,not_true_eq_false,if_false,Op.intDiv,if_neg hy];rfl)
    · cases h
theorem jvv {op : BinOp} {x y : ByteArray} {t : TypeId} {d : D} (h : binD P op t (.str x.data.toList) (.str y.data.toList) = some d) : ∃ v,(binOp op t (.string x) (.string y)).run P w = .ok v w /\ Rep ρ n im v d:=by
  cases op <;> simp only [binD,strBin] at h
  case add=>
    split at h
    · rename_i hl
      simp at h;subst h
      refine ⟨.string (x ++ y),?_,?_⟩
      · have : ¬ ((x.size + y.size : Nat) : Int) > IntKind.i64.max:=by
          have e : IntKind.i64.max = 9223372036854775807:=by decide
          rw [e]
          have h1 : x.size = x.data.toList.length:=by rw [Array.length_toList];rfl
          have h2 : y.size = y.data.toList.length:=by rw [Array.length_toList];rfl
          rw [h1,h2];omega
        simp only [binOp,Op.stringOp,Sem.run_ite,if_neg this,Sem.run_pure]
      · have : (x ++ y).data.toList = x.data.toList ++ y.data.toList:=by
          rw [ByteArray.data_append];simp
        rw [<- this];exact .str _
    · cases h
  all_goals first
    | (cases h;done)
    | (simp only [Option.some.injEq] at h;subst h;exact ⟨_,by simp [binOp,Op.stringOp,ByteArray.toList_eq,bytesLess],.bool _⟩)
theorem jlU {op : BinOp} {t : TypeId} {ox oy : Operand} {x y : ByteArray} : (eqGuard op t ox oy (.string x) (.string y)).run P w = .ok () w:=by
  cases op <;> simp [eqGuard]
theorem jiE (P : Program) : ∃ d,P.depth = d + 2:=⟨_,rfl⟩
theorem juD {t : TypeId} {k : IntKind} (hu : P.underlying t = some (.int k)) {x y : D} {vx vy : Value} {b : Bool} (hx : Rep ρ n im vx x) (hy : Rep ρ n im vy y) (hk : ∃ kx a ky c,x = .int kx a /\ y = .int ky c) (h : eqS x y = some b) (d : Nat) :
    (Op.equalIn (d + 1) t vx vy).run P w = .ok b w:=by
  obtain ⟨kx,a,ky,c,rfl,rfl⟩:=hk
  cases hx;cases hy
  simp only [eqS] at h
  split at h
  · rename_i e;subst e;simp at h;subst h
    exact run_equalIn_int w d t kx k a c hu
  · cases h
theorem jlu {e : TypeId} {k : IntKind} (he : P.underlying e = some (.int k)) (d : Nat) {xs ys : List D} {vs us : List Value} {b : Bool} (hx : RepL ρ n im vs xs) (hy : RepL ρ n im us ys)
    (h : eqSs xs ys = some b) (hi : xs.all intQ = true) (hj : ys.all intQ = true) : ∀ (pre1 pre2 : List Value) (p : Nat),pre1.length = p -> pre2.length = p ->
    (Op.eqItems (d + 1) e 1 ⟨pre1 ++ vs⟩ ⟨pre2 ++ us⟩ (List.range' p xs.length)).run P w = .ok b w:=by
  have hag : isAggT P e = some false:=by simp [isAggT,he]
  induction xs generalizing ys vs us b with
  | nil=>
    intro pre1 pre2 p _ _
    cases ys with
    | nil=>simp [eqSs] at h;subst h;simp [Op.eqItems]
    | cons y ys=>simp [eqSs] at h
  | cons x xs ih=>
    intro pre1 pre2 p h1 h2
    cases ys with
    | nil=>simp [eqSs] at h
    | cons y ys=>
      cases hx with
      | cons v _ vs _ hv1 hv hvr=>
        cases hy with
        | cons u _ us _ hu1 hu hur=>
          simp only [eqSs] at h
          cases hxy : eqS x y with
          | none=>simp [hxy] at h
          | some b0=>
            cases hr : eqSs xs ys with
            | none=>simp [hxy,hr] at h
            | some b1=>
              simp [hxy,hr] at h
              simp only [List.all_cons,Bool.and_eq_true] at hi hj
              have hint : ∃ kx a ky c,x = .int kx a /\ y = .int ky c:=by
                cases x <;> simp [intQ] at hi
                cases y <;> simp [intQ] at hj
                exact ⟨_,_,_,_,rfl,rfl⟩
              have p1 : (part e ⟨pre1 ++ v :: vs⟩ (p * 1)).run P w = .ok v w:=by
                unfold part
                simp [jbG hag,<- h1]
              have p2 : (part e ⟨pre2 ++ u :: us⟩ (p * 1)).run P w = .ok u w:=by
                unfold part
                simp [jbG hag,<- h2]
              have p3:=juD (w:=w) he hv hu hint hxy d
              simp only [List.length_cons,List.range'_succ,Op.eqItems,Sem.run_bind,p1,p2,p3,Result.andThen_ok]
              cases b0 with
              | false=>simp at h;subst h;simp
              | true=>
                simp at h;subst h
                have:=ih hvr hur hr hi.2 hj.2 (pre1 ++ [v]) (pre2 ++ [u]) (p + 1) (by simp [h1]) (by simp [h2])
                simpa using this
theorem jf7 {t e : TypeId} {m : Nat} {k : IntKind} (hu : P.underlying t = some (.array m e)) (he : P.underlying e = some (.int k)) (hs : sizeT P e = some 1) {xs ys : List D} {vs us : List Value} {b : Bool}
    (hx : RepL ρ n im vs xs) (hy : RepL ρ n im us ys) (hxl : xs.length = m) (hi : xs.all intQ = true) (hj : ys.all intQ = true) (h : eqSs xs ys = some b) (d : Nat) :
    (Op.equalIn (d + 2) t (.agg ⟨vs⟩) (.agg ⟨us⟩)).run P w = .ok b w:=by
  obtain ⟨i,hi',hz,_⟩:=ja8 hs
  rw [run_equalIn_array w (d + 1) _ _ hu hi']
  have hc : P.cellsOf e = 1:=by simp [Program.cellsOf,hi',hz]
  rw [hc,List.range_eq_range',<- hxl]
  exact jlu he d hx hy h hi hj [] [] 0 rfl rfl
theorem joT {e : TypeId} {k d : Nat} (h : kindT P e = some k) : P.eqGuardType (d + 1) e = false:=by
  unfold kindT at h
  split at h <;> first | (cases h;done) | (rename_i hu;simp [Program.eqGuardType,hu])
theorem jf3 {d : Nat} : ∀ {fs : List Field} {o : Nat} {ks : List Nat},kindsF P o fs = some ks -> (fs.any fun f=>f.name != "_" && P.eqGuardType (d + 1) f.type) = false
  | [],o,ks,h=>rfl
  | f :: fs,o,ks,h=>by
    simp only [kindsF] at h
    split at h
    · cases hk : kindT P f.type with
      | none=>simp [hk] at h
      | some k=>
        cases hr : kindsF P (o + 1) fs with
        | none=>simp [hk,hr] at h
        | some r=>simp [joT hk,jf3 hr]
    · cases h
theorem jsm {e : TypeId} {k : Nat} (hk : kindT P e = some k) {x y : D} {vx vy : Value} {b : Bool} (hx : Rep ρ n im vx x) (hy : Rep ρ n im vy y) (h : eqK1 k x y = some b) (d : Nat) : (Op.equalIn (d + 1) e vx vy).run P w = .ok b w:=by
  unfold kindT at hk
  unfold eqK1 at h
  split at h
  · split at h
    · rename_i e1;subst e1
      cases hx;cases hy
      simp at h;subst h
      split at hk <;> first | (cases hk;done) | skip
      rename_i hu
      exact run_equalIn_int w d e _ _ _ _ hu
    · cases h
  · cases hx;cases hy
    simp at h;subst h
    split at hk <;> first | (cases hk;done) | skip
    rename_i hu
    exact run_equalIn_bool w d e _ _ hu
  · cases hx;cases hy
    simp only [Option.some.injEq] at h;subst h
    split at hk <;> first | (cases hk;done) | skip
    rename_i hu
    rw [run_equalIn_string w d e _ _ hu,ByteArray.toList_eq,ByteArray.toList_eq]
  · cases h
theorem jsc {e : TypeId} {k : Nat} (h : kindT P e = some k) : isAggT P e = some false:=by
  unfold kindT at h
  unfold isAggT
  split at h <;> first | (cases h;done) | (rename_i hu;simp [hu])
theorem jmV : ∀ {fs : List Field} {o : Nat} {ks : List Nat} {xs ys : List D} {vs us : List Value} {b : Bool},kindsF P o fs = some ks -> RepL ρ n im vs xs -> RepL ρ n im us ys -> eqK ks xs ys = some b ->
    ∀ (d : Nat) (pre1 pre2 : List Value),pre1.length = o -> pre2.length = o -> (Op.eqFields (d + 1) ⟨pre1 ++ vs⟩ ⟨pre2 ++ us⟩ fs).run P w = .ok b w
  | [],o,ks,xs,ys,vs,us,b,hk,hx,hy,h,d,pre1,pre2,h1,h2=>by
    simp [kindsF] at hk;subst hk
    cases hx <;> cases hy <;> simp [eqK] at h
    subst h;simp [Op.eqFields]
  | f :: fs,o,ks,xs,ys,vs,us,b,hk,hx,hy,h,d,pre1,pre2,h1,h2=>by
    simp only [kindsF] at hk
    split at hk
    · rename_i hf
      cases hk1 : kindT P f.type with
      | none=>simp [hk1] at hk
      | some k=>
        cases hr : kindsF P (o + 1) fs with
        | none=>simp [hk1,hr] at hk
        | some r=>
          simp [hk1,hr] at hk;subst hk
          cases hx with
          | nil=>cases hy <;> simp [eqK] at h
          | cons v x vs xs hv1 hv hvr=>
            cases hy with
            | nil=>simp [eqK] at h
            | cons u y us ys hu1 hu hur=>
              simp only [eqK] at h
              cases h3 : eqK1 k x y with
              | none=>simp [h3] at h
              | some b0=>
                cases h4 : eqK r xs ys with
                | none=>simp [h3,h4] at h
                | some b1=>
                  simp [h3,h4] at h
                  have hag:=jsc hk1
                  have p1 : (part f.type ⟨pre1 ++ v :: vs⟩ f.offset).run P w = .ok v w:=by
                    unfold part
                    simp [jbG hag,hf.1,<- h1]
                  have p2 : (part f.type ⟨pre2 ++ u :: us⟩ f.offset).run P w = .ok u w:=by
                    unfold part
                    simp [jbG hag,hf.1,<- h2]
                  have p3:=jsm (w:=w) hk1 hv hu h3 d
                  simp only [Op.eqFields,if_pos hf.2,Sem.run_bind,p1,p2,p3,Result.andThen_ok]
                  cases b0 with
                  | false=>simp at h;subst h;simp
                  | true=>
                    simp at h;subst h
                    have:=jmV hr hvr hur h4 d (pre1 ++ [v]) (pre2 ++ [u]) (by simp [h1]) (by simp [h2])
                    simpa using this
    · cases hk
theorem jbi {op : BinOp} {t : TypeId} {ox oy : Operand} {x y : Value} (h1 : ∀ a b,x = .agg a -> y = .agg b -> P.eqGuardType P.depth t = false)
    (h2 : x = .nilIface -> y = .nilIface -> ∃ ms,P.underlying t = some (.interface ms) /\ ms.isEmpty = true) : (eqGuard op t ox oy x y).run P w = .ok () w:=by
  cases op <;> simp [eqGuard]
  all_goals
    split
    · rename_i e1 e2
      split
      · rfl
      · obtain ⟨ms,hu,hm⟩:=h2 rfl rfl
        have key : ∀ d,(Op.eqGuardIn (d + 1) t .nilIface .nilIface).run P w = .ok false w:=fun d=>by simp [Op.eqGuardIn,run_underlying hu,hm]
        have this : (Op.eqGuardIn Op.maxDepth t .nilIface .nilIface).run P w = .ok false w:=key 9999
        simp only [Sem.run_ite,Sem.run_bind,this,Result.andThen_ok,Bool.false_eq_true,if_false,Sem.run_pure,ite_self]
    · simp [h1 _ _ rfl rfl]
    · rfl
set_option maxHeartbeats 4000000 in
theorem jwa {t : TypeId} {x y : D} {vx vy : Value} {b : Bool} (h : eqD P t x y = some b) (hx : Rep ρ n im vx x) (hy : Rep ρ n im vy y) (ox oy : Operand) (op : BinOp) :
    (Op.equal t vx vy).run P w = .ok b w /\ (eqGuard op t ox oy vx vy).run P w = .ok () w:=by
  have he : Op.equal t vx vy = Op.equalIn (9998 + 2) t vx vy:=rfl
  rw [he]
  clear he
  generalize 9998 = d
  unfold eqD at h
  split at h
  case h_15 xs ys=>
    cases hx with
    | agg vs _ hvs=>
      cases hy with
      | agg us _ hus=>
        split at h
        · rename_i m e hu
          split at h
          · rename_i k hue hs
            split at h
            · rename_i hc
              refine ⟨jf7 hu hue hs hvs hus hc.1 (by simpa using hc.2.2.1) (by simpa using hc.2.2.2) h d,jbi (fun _ _ _ _=>?_) (fun h=>by cases h)⟩
              obtain ⟨d,hd⟩:=jiE P
              simp [hd,Program.eqGuardType,hu,hue]
            · cases h
          · cases h
        · rename_i fs hu
          cases hk : kindsT P t with
          | none=>simp [hk] at h
          | some ks=>
            simp [hk] at h
            unfold kindsT at hk
            rw [hu] at hk
            simp only at hk
            split at hk
            · rename_i hst
              have hft : P.fieldsOf t = fs:=by simp [Program.fieldsOf,hu]
              refine ⟨?_,jbi (fun _ _ _ _=>?_) (fun h=>by cases h)⟩
              · rw [run_equalIn_struct w (d + 1) t _ _ (by rw [hft];exact hu) hst,hft]
                exact jmV hk hvs hus h d [] [] rfl rfl
              · obtain ⟨d,hd⟩:=jiE P
                have:=jf3 (d:=d) hk
                rw [hd]
                simp only [Program.eqGuardType,hu]
                rw [<- Array.any_toList];exact this
            · cases hk
        · cases h
  all_goals first | (cases h;done) | skip
  all_goals (split at h;rename_i hu)
  all_goals first
    | (cases h;done)
    | (cases hx;cases hy;simp only [eqS] at h;split at h <;> simp at h;subst h;rename_i hk;subst hk;exact ⟨by simp [Op.equalIn,run_underlying hu],jbi (fun _ _ h=>by cases h) (fun h=>by cases h)⟩)
    | (cases hx;cases hy;simp only [Option.some.injEq] at h;subst h;exact ⟨by rw [run_equalIn_string w (d + 1) t _ _ hu,ByteArray.toList_eq,ByteArray.toList_eq],jbi (fun _ _ h=>by cases h) (fun h=>by cases h)⟩)
    | (cases hx;cases hy;simp only [Option.some.injEq] at h;subst h;exact ⟨by simp [Op.equalIn,run_underlying hu],jbi (fun _ _ h=>by cases h) (fun h=>by first | (cases h;done) | (intro h;cases h;done))⟩)
    | (cases hx; cases hy; split at h
       · rename_i hm;simp only [Option.some.injEq] at h;subst h;exact ⟨by simp [Op.equalIn,run_underlying hu],jbi (fun _ _ h=>by cases h) (fun _ _=>⟨_,hu,hm⟩)⟩
       · cases h)
    | (split at h
       · rename_i hc;obtain ⟨rfl,rfl,rfl,hs⟩:=hc;obtain ⟨sz,hs⟩:=Option.isSome_iff_exists.1 hs;cases hx;cases hy;simp only [Option.some.injEq] at h;subst h;exact ⟨by simp [Op.equalIn,run_underlying hu,ji8 hs,sameAddr],jbi (fun _ _ h=>by cases h) (fun h=>by cases h)⟩
       · cases h)
end
end Vm
end
section
namespace Vm
open Go
def inRange (i : D) (n : Nat) : Option Nat:=
  match i with
  | .int _ v=>if 0 <= v /\ v < n then some v.toNat else none
  | _=>none
def vecSize (H : Heap) (r n : Nat) : Bool:=
  match hget H r with
  | .arr (x :: _) | .fro (x :: _)=>x.cells.length == n
  | _=>false
def indexAddrD (P : Program) (t : TypeId) (H : Heap) (x i : D) : Option D:=
  match P.underlying t with
  | some (.slice e)=>match x with
    | .sl _ xs=>(inRange i xs.length).bind fun k=>(sizeT P e).bind fun n=>(xs[k]?).bind fun y=>if y.cells.length = n then some (.ept y 0) else none
    | .vec r o n=>(inRange i n).bind fun k=>(sizeT P e).bind fun z=>if vecSize H r z then some (.ptr r (o + k) 0) else none
    | _=>none
  | some (.array n e)=>(inRange i n).bind fun k=>(sizeT P e).bind fun m=>moveP x (k * m)
  | _=>none
def indexD (P : Program) (t : TypeId) (x i : D) : Option D:=
  match P.underlying t,x with
  | some (.array n e),.agg cs=>(inRange i n).bind fun k=>(sizeT P e).bind fun m=>partD P e cs (k * m)
  | some .string,.str s=>(inRange i s.length).bind fun k=>(s[k]?).map fun b=>.int .u8 b.toNat
  | _,_=>none
def bound (d : Option D) (dflt : Nat) : Option Nat:=
  match d with
  | none=>some dflt
  | some (.int _ v)=>if 0 <= v then some v.toNat else none
  | _=>none
def headSize (n : Nat) : List D -> Bool
  | []=>true
  | x :: _=>x.cells.length == n
def sliceD (P : Program) (t : TypeId) (H : Heap) (x : D) (lo hi mx : Option D) : Option D:=
  match P.underlying t,x,mx with
  | some .string,.str s,none=>(bound lo 0).bind fun l=>(bound hi s.length).bind fun h=>if l <= h /\ h <= s.length then some (.str ((s.take h).drop l)) else none
  | some (.slice e),.sl f xs,none=>(sizeT P e).bind fun n=>(bound lo 0).bind fun l=>(bound hi xs.length).bind fun h=>
      if l <= h /\ h <= xs.length /\ headSize n xs then some (.sl (f && h == xs.length) ((xs.take h).drop l)) else none
  | some (.slice e),.sl _ xs,some m=>(sizeT P e).bind fun n=>(bound lo 0).bind fun l=>(bound hi xs.length).bind fun h=>(bound (some m) 0).bind fun m=>
      if l <= h /\ h <= m /\ m <= xs.length /\ headSize n xs /\ hi.isSome then some (.sl (h == m) ((xs.take h).drop l)) else none
  | some (.slice e),.vec r o n,none=>(sizeT P e).bind fun z=>(bound lo 0).bind fun l=>(bound hi n).bind fun h=>
      if l <= h /\ h <= n /\ vecSize H r z then some (if l = h then .sl false [] else .vec r (o + l) (h - l)) else none
  | some (.slice e),.vec r o n,some m=>(sizeT P e).bind fun z=>(bound lo 0).bind fun l=>(bound hi n).bind fun h=>(bound (some m) 0).bind fun m=>
      if l = h /\ h = m /\ m <= n /\ vecSize H r z /\ hi.isSome then some (.sl true []) else none
  | _,_,_=>none
def nilE : D -> Bool
  | .sl true []=>true
  | _=>false
def puresA (H : Heap) (xs : List D) : Option (List D × Heap):=if xs.all nilE = true then some (xs,H) else pures H xs
def addedD (H : Heap) : D -> Option (List D × Heap)
  | .str s=>some (bytesOf s,H)
  | d=>(elems H d).bind fun xs=>puresA H xs
def appendD (P : Program) (t : TypeId) (H : Heap) (s x : D) : Option (D × Heap):=
  (elemT P t).bind fun e=>(sizeT P e).bind fun n=>(bytesT P e).bind fun w=>(zeroT P e).bind fun z=>(addedD H x).bind fun (ys,H)=>
    if z.cells.length ≠ n ∨ w = 0 then none else if ys.isEmpty then (match s with | .sl _ _ | .vec _ _ _=>some (s,H) | _=>none) else if headSize n ys = false then none else
    match s with
    | .sl true xs=>if headSize n xs /\ (xs.length + ys.length) * w <= mostBytes then some (.vec H.length 0 (xs.length + ys.length),H ++ [.arr (xs ++ ys)]) else none
    | .vec r 0 m=>match hget H r with
      | .arr xs=>if headSize n xs /\ xs.isEmpty = false /\ m = xs.length /\ (xs.length + ys.length) * w <= mostBytes then some (.vec H.length 0 (xs.length + ys.length),H.set r .dead ++ [.arr (xs ++ ys)]) else none
      | _=>none
    | _=>none
def lenD (P : Program) (t : TypeId) (H : Heap) (x : D) : Option Nat:=
  match P.underlying t,x with
  | some .string,.str s=>some s.length
  | some (.array n _),_=>some n
  | some (.slice _),.sl _ xs=>some xs.length
  | some (.slice _),.vec _ _ n=>some n
  | some (.map _ _),.nilm=>some 0
  | some (.map _ _),.map r=>match hget H r with
    | .map es=>some es.length
    | _=>none
  | _,_=>none
def findE (k : D) : List (D × D) -> Nat -> Option (Option (Nat × D))
  | [],_=>some none
  | e :: es,i=>if aggQ e.1 = aggQ k then (eqSs k.cells e.1.cells).bind fun b=>if b then some (some (i,e.2)) else findE k es (i + 1) else none
def keyOk (P : Program) (t : TypeId) (k : D) : Bool:=
  match P.underlying t,k with
  | some (.int _),.int _ _ | some .string,.str _ | some .bool,.bool _=>true
  | some (.array n e),.agg cs=>(match P.underlying e,sizeT P e with | some (.int _),some 1=>true | _,_=>false) && cs.length == n && cs.all intQ
  | _,_=>false
def lookupD (P : Program) (t : TypeId) (H : Heap) (m k : D) (ok : Bool) : Option D:=
  match P.underlying t with
  | some (.map kt vt)=>if keyOk P kt k = false then none else
    (match m with
      | .nilm=>some none
      | .map r=>match hget H r with
        | .map es=>findE k es 0
        | _=>none
      | _=>none).bind fun f=>
      (match f with
        | some (_,v)=>some (v,true)
        | none=>(zeroT P vt).map fun z=>(z,false)).map fun (v,b)=>if ok then .tup [v,.bool b] else v
  | _=>none
def updateD (P : Program) (t : TypeId) (H : Heap) (m k v : D) : Option Heap:=
  match P.underlying t,m with
  | some (.map kt _),.map r=>if keyOk P kt k = false then none else
    match hget H r with
    | .map es=>(findE k es 0).map fun
      | some (i,_)=>H.set r (.map (es.modify i fun e=>(e.1,v)))
      | none=>H.set r (.map (es ++ [(k,v)]))
    | _=>none
  | _,_=>none
def makeMapD (P : Program) (t : TypeId) (r : Option D) (H : Heap) : Option (D × Heap):=
  match P.underlying t,r with
  | some (.map _ _),none | some (.map _ _),some (.int _ _)=>some (.map H.length,H ++ [.map []])
  | _,_=>none
def fillD (place : Nat -> Option (Nat × Nat)) (cells : List D) : List (Nat × D) -> Option (List D)
  | []=>some cells
  | (i,v) :: r=>(place i).bind fun (off,n)=>if v.cells.length = n /\ off + n <= cells.length /\ noTup v then fillD place (spliceL cells off v.cells) r else none
def placesT (P : Program) (fs : List Field) : Option (List (Nat × Nat)):=
  match fs with
  | []=>some []
  | f :: r=>(P.info? f.type).bind fun i=>(placesT P r).map ((f.offset,i.size) :: ·)
def buildD (P : Program) (t : TypeId) (parts : List (Nat × D)) : Option D:=
  (zeroT P t).bind fun z=>match P.underlying t with
    | some (.struct fs)=>(placesT P fs.toList).bind fun ps=>(fillD (fun i=>ps[i]?) z.cells parts).map .agg
    | some (.array _ e)=>(sizeT P e).bind fun n=>(fillD (fun i=>some (i * n,n)) z.cells parts).map .agg
    | _=>none
def fillE (n : Nat) (xs : List D) : List (Nat × D) -> Option (List D)
  | []=>some xs
  | (i,v) :: r=>if v.cells.length = n /\ i < xs.length /\ noTup v then fillE n (xs.set i v) r else none
def buildSliceD (P : Program) (t : TypeId) (len : Nat) (parts : List (Nat × D)) (H : Heap) : Option (D × Heap):=
  (elemT P t).bind fun e=>(sizeT P e).bind fun n=>(zeroT P e).bind fun z=>
    if z.cells.length = n /\ len * n <= 2 ^ 24 then
      if len = 0 then (if parts.isEmpty then some (.sl true [],H) else none)
      else (fillE n (List.replicate len z) parts).map fun xs=>(.vec H.length 0 len,H ++ [.arr xs])
    else none
def makeSliceD (P : Program) (t : TypeId) (len cap : D) (H : Heap) : Option (D × Heap):=
  match len,cap with
  | .int _ l,.int _ c=>(elemT P t).bind fun e=>(sizeT P e).bind fun n=>(bytesT P e).bind fun w=>(zeroT P e).bind fun z=>
    if 0 <= l /\ l <= c /\ c.toNat * w <= mostBytes /\ c < 2 ^ 62 /\ z.cells.length = n then
      if c = 0 then some (.sl true [],H) else some (.vec H.length 0 l.toNat,H ++ [.arr (List.replicate l.toNat z)])
    else none
  | _,_=>none
def convD (P : Program) (src dst : TypeId) (x : D) (H : Heap) : Option (D × Heap):=
  match P.underlying src,P.underlying dst,x with
  | some (.int _),some (.int k),.int _ n=>some (.int k (k.wrap n),H)
  | some .string,some .string,.str s=>some (.str s,H)
  | some (.slice e),some .string,x=>match P.underlying e with
    | some (.int .u8)=>(elems H x).bind fun xs=>(bytesBack xs).map fun s=>(.str s,H)
    | _=>none
  | some (.pointer t),some .unsafePointer,.ptr r i j=>match hget H r with
    | .arr xs=>(xs[i]?).bind fun x=>(x.cells[j]?).bind fun _=>(sizeT P t).map fun _=>(.ptr r i j,H)
    | _=>none
  | _,_,_=>none
def minD : D -> D -> Option D
  | .int k a,.int k' b=>if k = k' then some (.int k (if b < a then b else a)) else none
  | _,_=>none
def maxD : D -> D -> Option D
  | .int k a,.int k' b=>if k = k' then some (.int k (if b > a then b else a)) else none
  | _,_=>none
def fold1 (f : D -> D -> Option D) : List D -> Option D
  | []=>none
  | x :: r=>r.foldlM f x
def builtinD (P : Program) (b : Builtin) (ts : List TypeId) (args : List D) (H : Heap) : Option (D × Heap):=
  match b,ts,args with
  | .len,[t],[x]=>(lenD P t H x).map fun n=>(.int .i64 n,H)
  | .append,[t,u],[s,x]=>match P.underlying u with
    | some (.slice _) | some .string=>appendD P t H s x
    | _=>none
  | .min,_,l=>(fold1 minD l).map (·,H)
  | .max,_,l=>(fold1 maxD l).map (·,H)
  | _,_,_=>none
inductive Mode where
  | pure
  | fresh
  | state
  deriving DecidableEq
inductive ExtK where
  | load (k : IntKind)
  | store
  | add (k : IntKind)
  | cas (k : IntKind)
  | mark0
  | mark1
structure Ann where
  mode : FuncId -> Mode
  prim : FuncId -> Option (List D -> Heap -> Option R)
  fz : TypeId -> Bool:=fun _=>false
  bl : FuncId -> Option ExtK:=fun _=>none
  rd : FuncId -> Option (List D -> List Ob -> Option D):=fun _=>none
def primQ (A : Ann) (f : FuncId) : Bool:=(A.prim f).isSome || (A.rd f).isSome
theorem ja7 {A : Ann} {f : FuncId} (h : primQ A f = false) : A.prim f = none /\ A.rd f = none:=by simpa [primQ] using h
def pureC (A : Ann) (f : FuncId) : Bool:=(A.prim f).isNone && (A.rd f).isNone && A.mode f == .pure
def objsD : D -> List Nat
  | .ptr r _ _ | .vec r _ _ | .map r=>[r]
  | _=>[]
def rdD (g : List D -> List Ob -> Option D) (args : List D) (H : Heap) : Option R:=(g args ((args.flatMap objsD).map (hget H))).map fun d=>.ok d H
mutual
def bareD : D -> Bool
  | .ptr .. | .vec .. | .map _ | .yld _ | .ept ..=>false
  | .sl _ xs=>bareL xs
  | .fn _ cs=>bareL cs
  | .bfn _ cs=>bareL cs
  | .iface _ d=>bareD d
  | .agg cs=>bareL cs
  | .tup cs=>bareL cs
  | _=>true
def bareL : List D -> Bool
  | []=>true
  | d :: r=>bareD d && bareL r
end
def bareOb : Ob -> Bool
  | .arr xs=>bareL xs
  | .map es=>es.isEmpty
  | _=>false
def deadQ : Ob -> Bool
  | .dead=>true
  | _=>false
def moveTo (p : Nat) : D -> Option D
  | .ptr 0 i j=>some (.ptr p i j)
  | .vec 0 o n=>some (.vec p o n)
  | .map 0=>some (.map p)
  | _=>none
def freshR (d : D) (Hc H : Heap) : Option R:=
  match Hc with
  | []=>if bareD d = true then some (.ok d H) else none
  | [ob]=>if bareOb ob = true then (moveTo H.length d).map fun d=>.ok d (H ++ [ob]) else none
  | _=>none
def freshC (A : Ann) (f : FuncId) : Bool:=(A.prim f).isNone && (A.rd f).isNone && A.mode f == .fresh
def outPure (Hc : Heap) (d : D) : Option D:=(pur deepest Hc d).map (·.1)
def bodied (P : Program) (f : FuncId) : Bool:=
  match P.funcs[f]? with
  | some fn=>fn.body.isSome && !(fn.name == "runtime.NumGoroutine")
  | none=>false
def cellD (H : Heap) (r i j : Nat) : Option (IntKind × Int):=
  match hget H r with
  | .arr xs=>(xs[i]?).bind fun x=>(x.cells[j]?).bind fun
    | .int k n=>some (k,n)
    | _=>none
  | _=>none
def cellSet (H : Heap) (r i j : Nat) (d : D) : Option Heap:=
  match hget H r with
  | .arr xs=>(xs[i]?).bind fun x=>(setE x j d).map fun y=>H.set r (.arr (xs.set i y))
  | _=>none
def extD (k : ExtK) (args : List D) (H : Heap) : Option (D × Heap):=
  match k,args with
  | .load k,[.ptr r i j]=>(cellD H r i j).bind fun c=>if c.1 = k then some (.int k c.2,H) else none
  | .store,[.ptr r i j,.int k y]=>(cellSet H r i j (.int k y)).map fun H=>(.tup [],H)
  | .add k,[.ptr r i j,.int k' y]=>(cellD H r i j).bind fun c=>if c.1 = k /\ k' = k then (cellSet H r i j (.int k (k.wrap (c.2 + y)))).map fun H=>(.int k (k.wrap (c.2 + y)),H) else none
  | .cas k,[.ptr r i j,.int k1 x,.int k2 y]=>(cellD H r i j).bind fun c=>if c.1 = k /\ k1 = k /\ k2 = k then (if c.2 = x then (cellSet H r i j (.int k y)).map fun H=>(.bool true,H) else some (.bool false,H)) else none
  | .mark0,[]=>some (.tup [],H)
  | .mark1,[.ptr _ _ _]=>some (.tup [],H)
  | _,_=>none
def callD (P : Program) (A : Ann) (call : CallF) (f : FuncId) (args : List D) (H : Heap) : Option R:=
  if bodied P f = false then if (A.rd f).isSome then none else (A.bl f).bind fun k=>(extD k args H).map fun (d,H)=>.ok d H else match A.rd f with
  | some g=>rdD g args H
  | none=>match A.prim f with
  | some p=>p args H
  | none=>match A.mode f with
    | .state=>call f args H
    | m => (pures H args).bind fun (as, H') => (call f as []).bind fun
        | .ok d Hc=>
          if m = .fresh then freshR d Hc H'
          else (outPure Hc d).map fun d=>.ok d (if flat d then H else H')
        | .pan _ _=>none
def okH (x : Option (D × Heap)) : Option R:=x.map fun (d,H)=>.ok d H
def okD (H : Heap) (x : Option D) : Option R:=x.map fun d=>.ok d H
def okU (x : Option Heap) : Option R:=x.map fun H=>.ok ud H
def partsD (e : Env) : List (Nat × Operand) -> Option (List (Nat × D))
  | []=>some []
  | (i,o) :: r=>(evalO e o).bind fun d=>(partsD e r).map ((i,d) :: ·)
def assertD (P : Program) (x : D) (u : TypeId) (ok : Bool) : Option D:=
  match P.underlying u with
  | some (.interface _)=>none
  | some _=>match x with
    | .iface t v=>if t = u then some (if ok then .tup [v,.bool true] else v) else if ok then (zeroT P u).map fun z=>.tup [z,.bool false] else none
    | .nili=>if ok then (zeroT P u).map fun z=>.tup [z,.bool false] else none
    | _=>none
  | none=>none
def stepOp (P : Program) (A : Ann) (call : CallF) (o : Op) (e : Env) (H : Heap) : Option R:=
  match o with
  | .move x | .assign x=>okD H (evalO e x)
  | .pick c a b=>(evalO e c).bind fun
    | .bool c=>okD H (if c then evalO e a else evalO e b)
    | _=>none
  | .alloc t=>(zeroT P t).map fun z=>.ok (newOb H [z]).1 (newOb H [z]).2
  | .box _ x=>(evalO e x).bind fun d=>if noTup d then some (.ok (newOb H [d]).1 (newOb H [d]).2) else none
  | .build t ps=>(partsD e ps.toList).bind fun l=>okD H (buildD P t l)
  | .buildSlice t n ps=>(partsD e ps.toList).bind fun l=>okH (buildSliceD P t n l H)
  | .load t a=>(evalO e a).bind fun p=>okD H (loadD P t H p)
  | .store t a x=>(evalO e a).bind fun p=>(evalO e x).bind fun v=>okU (storeD P t H p v)
  | .nilCheck x=>(evalO e x).bind fun
    | .ptr r i j=>some (.ok (.ptr r i j) H)
    | .ept y j=>some (.ok (.ept y j) H)
    | .fn f cs=>some (.ok (.fn f cs) H)
    | .bfn f cs=>some (.ok (.bfn f cs) H)
    | _=>none
  | .binOp op t x y _=>(evalO e x).bind fun a=>(evalO e y).bind fun b=>okD H (binN (nilS y) P op t a b)
  | .unOp op _ x=>(evalO e x).bind fun a=>okD H (unD op a)
  | .convert s t x=>(evalO e x).bind fun a=>okH (convD P s t a H)
  | .makeInterface t x=>(evalO e x).bind fun a=>match P.underlying t with
    | some (.interface _)=>none
    | some _=>some (.ok (.iface t a) H)
    | none=>none
  | .makeFunc (.func f) fs cs=>if fs.isEmpty then (evalOs e cs.toList).map fun l=>.ok (.fn f l) H else if cs.isEmpty then (evalOs e fs.toList).map fun l=>.ok (.bfn f l) H else none
  | .makeSlice t l c=>(evalO e l).bind fun l=>(evalO e c).bind fun c=>okH (makeSliceD P t l c H)
  | .slice t x lo hi mx=>(evalO e x).bind fun x=>(evalOo e lo).bind fun lo=>(evalOo e hi).bind fun hi=>(evalOo e mx).bind fun mx=>okD H (sliceD P t H x lo hi mx)
  | .fieldAddr t x f=>(evalO e x).bind fun p=>(fieldT P t f).bind fun (o,u)=>(sizeT P u).bind fun _=>okD H (moveP p o)
  | .field t x f=>(evalO e x).bind fun
    | .agg cs=>(fieldT P t f).bind fun (o,u)=>okD H (partD P u cs o)
    | _=>none
  | .indexAddr t x i=>(evalO e x).bind fun x=>(evalO e i).bind fun i=>okD H (indexAddrD P t H x i)
  | .index t x i=>(evalO e x).bind fun x=>(evalO e i).bind fun i=>okD H (indexD P t x i)
  | .makeMap t r=>(evalOo e r).bind fun r=>okH (makeMapD P t r H)
  | .lookup t x i ok=>(evalO e x).bind fun x=>(evalO e i).bind fun i=>okD H (lookupD P t H x i ok)
  | .mapUpdate t m k v | .insert t m k v=>(evalO e m).bind fun m=>(evalO e k).bind fun k=>(evalO e v).bind fun v=>okU (updateD P t H m k v)
  | .extract x i=>(evalO e x).bind fun
    | .tup ds=>okD H ds[i]?
    | _=>none
  | .typeAssert x _ t ok=>(evalO e x).bind fun a=>okD H (assertD P a t ok)
  | .call c=>(evalOs e c.args.toList).bind fun args=>match c.callee with
    | .builtin b=>okH (builtinD P b c.argTypes.toList args H)
    | .value f=>(evalO e f).bind fun
      | .fn f cs=>callD P A call f (args ++ cs) H
      | .bfn f fs=>callD P A call f (fs ++ args) H
      | .yld r=>call (P.funcs.size + r) args H
      | _=>none
    | .invoke _ _=>none
  | .panic x=>(evalO e x).bind fun
    | .iface t d=>some (.pan (.iface t d) H)
    | _=>none
  | _=>none
end Vm
end
section
namespace Vm
open Go Go.RowKit
variable [Base]
section
variable {P : Program} {ρ : Rho} {im : Im} {H : Heap} {w : World} {N n : Nat} {a : Act} {e : Env}
omit [Base] in
theorem jrS {op : BinOp} {t : TypeId} {x y d : D} {vx vy : Value} (h : binD P op t x y = some d) (hx : Rep ρ n im vx x) (hy : Rep ρ n im vy y) (ox oy : Operand) :
    ∃ v,(do eqGuard op t ox oy vx vy;binOp op t vx vy).run P w = .ok v w /\ Rep ρ n im v d:=by
  have hint : ∀ {k k' : IntKind} {a b : Int},x = .int k a -> y = .int k' b -> ∃ v,(do eqGuard op t ox oy vx vy;binOp op t vx vy).run P w = .ok v w /\ Rep ρ n im v d:=by
    rintro k k' a b rfl rfl
    cases hx;cases hy
    obtain ⟨v,h1,h2⟩:=jwb (w:=w) (ρ:=ρ) (n:=n) (im:=im) h
    exact ⟨v,by simp only [Sem.run_bind,jml,Result.andThen_ok,h1],h2⟩
  have hstr : ∀ {a b : List UInt8},x = .str a -> y = .str b -> ∃ v,(do eqGuard op t ox oy vx vy;binOp op t vx vy).run P w = .ok v w /\ Rep ρ n im v d:=by
    rintro a b rfl rfl
    cases hx;cases hy
    obtain ⟨v,h1,h2⟩:=jvv (w:=w) (ρ:=ρ) (n:=n) (im:=im) h
    exact ⟨v,by simp only [Sem.run_bind,jlU,Result.andThen_ok,h1],h2⟩
  unfold binD at h
  split at h
  · exact hint rfl rfl
  · exact hstr rfl rfl
  · rename_i hn1 hn2
    have go : ∀ b,eqD P t x y = some b -> (op = .eql -> d = .bool b) -> (op = .neq -> d = .bool (!b)) -> (op = .eql ∨ op = .neq) ->
        ∃ v,(do eqGuard op t ox oy vx vy;binOp op t vx vy).run P w = .ok v w /\ Rep ρ n im v d:=by
      intro b hb h1 h2 h3
      obtain ⟨q1,q2⟩:=jwa (w:=w) hb hx hy ox oy op
      have key : ∀ op',op' = op -> (op' = .eql ∨ op' = .neq) -> (binOp op' t vx vy).run P w = .ok (.bool (if op' = .eql then b else !b)) w:=by
        intro op' e1 e2
        subst e1
        have hne1 : ∀ k k' a b,vx = .int k a -> vy = .int k' b -> False:=fun k k' a b e1 e2=>by
          subst e1;subst e2;cases hx;cases hy;exact hn1 _ _ _ _ rfl rfl
        have hne2 : ∀ a b,vx = .string a -> vy = .string b -> False:=fun a b e1 e2=>by
          subst e1;subst e2;cases hx;cases hy;exact hn2 _ _ rfl rfl
        rcases e2 with rfl | rfl
        · cases hx <;> first
            | (simp only [binOp,Sem.run_bind,q1,Result.andThen_ok];rfl)
            | (cases hy <;> first
                | (exact (hne1 _ _ _ _ rfl rfl).elim)
                | (exact (hne2 _ _ rfl rfl).elim)
                | (simp only [binOp,Sem.run_bind,q1,Result.andThen_ok];rfl))
        · cases hx <;> first
            | (simp only [binOp,Sem.run_bind,q1,Result.andThen_ok];rfl)
            | (cases hy <;> first
                | (exact (hne1 _ _ _ _ rfl rfl).elim)
                | (exact (hne2 _ _ rfl rfl).elim)
                | (simp only [binOp,Sem.run_bind,q1,Result.andThen_ok];rfl))
      refine ⟨_,by simp only [Sem.run_bind,q2,Result.andThen_ok];exact key op rfl h3,?_⟩
      rcases h3 with rfl | rfl
      · rw [h1 rfl];simp;exact .bool _
      · rw [h2 rfl];simp;exact .bool _
    cases hq : eqD P t x y with
    | none=>simp [hq] at h;split at h <;> simp at h
    | some b=>
      simp only [hq] at h
      split at h
      · simp at h;exact go b hq (fun _=>h.symm) (fun e=>by cases e) (.inl rfl)
      · simp at h;exact go b hq (fun e=>by cases e) (fun _=>h.symm) (.inr rfl)
      · cases h
omit [Base] in
theorem jnQ {op : BinOp} {t : TypeId} {x d : D} {vx : Value} (h : nilCmp P op t x = some d) (hx : Rep ρ n im vx x) (ox oy : Operand) :
    ∃ v,(do eqGuard op t ox oy vx (.slice none 0 0);binOp op t vx (.slice none 0 0)).run P w = .ok v w /\ Rep ρ n im v d:=by
  unfold nilCmp at h
  split at h
  case isFalse=>cases h
  rename_i hc
  simp only [Bool.and_eq_true] at hc
  obtain ⟨e,he⟩:=Option.isSome_iff_exists.1 hc.1
  have hu : P.underlying t = some (.slice e):=by
    unfold elemT at he
    split at he
    · rename_i hu;simp at he;subst he;exact hu
    · cases he
  obtain ⟨a,m,c,rfl⟩ : ∃ a m c,vx = .slice (some a) m c:=by
    have h2:=hc.2
    cases hx <;> simp only [neverNil] at h2 <;> first | (cases h2;done) | exact ⟨_,_,_,rfl⟩
  have he : (Op.equal t (.slice (some a) m c) (.slice none 0 0)).run P w = .ok false w:=by
    show (Op.equalIn (9999 + 1) t _ _).run P w = _
    generalize 9999 = dd
    simp [Op.equalIn,run_underlying hu]
  have hg : (eqGuard op t ox oy (.slice (some a) m c) (.slice none 0 0)).run P w = .ok () w:=jbi (fun _ _ h=>by cases h) (fun h=>by cases h)
  cases op <;> simp only [nilOp,Option.some.injEq] at h <;> first | (cases h;done) | subst h
  · exact ⟨.bool false,by simp only [Sem.run_bind,hg,Result.andThen_ok,binOp,he];rfl,.bool _⟩
  · exact ⟨.bool true,by simp only [Sem.run_bind,hg,Result.andThen_ok,binOp,he];rfl,.bool _⟩
omit [Base] in
theorem juL {op : UnOp} {x d : D} {vx : Value} (h : unD op x = some d) (hx : Rep ρ n im vx x) : ∃ v,(Op.unary op vx).run P w = .ok v w /\ Rep ρ n im v d:=by
  cases x <;> simp only [unD] at h <;> try (cases h;done)
  · cases hx
    cases op <;> simp at h;subst h
    exact ⟨_,by simp [Op.unary],.bool _⟩
  · cases hx
    cases op <;> simp only [Option.some.injEq] at h <;> try (cases h;done)
    subst h
    exact ⟨_,rfl,.int _ _⟩
theorem jfy {d : D} {v : Value} (hR : Rel ρ im H w) (hv : Rep ρ H.length im v d) (ht : ∀ l,d ≠ .tup l) (t : TypeId) :
    ∃ ρ' w',(newVar t v).run P w = .ok ⟨w.heap.size,0,none⟩ w' /\ Mv ρ im H w ρ' im (H ++ [.arr [d]]) w' /\ Rep ρ' (H ++ [Ob.arr [d]]).length im (.pointer (some ⟨w.heap.size,0,none⟩)) (.ptr H.length 0 0):=by
  have hc:=hv.cells ht
  have hsz : v.cells.size = d.cells.length:=by simpa using hc.length
  obtain ⟨h1,h2⟩:=hR.alloc (sz:=d.cells.length) (cap:=1) (xs:=[d]) (c:=v.cells) (t:=t) (fz:=(0,0)) (by omega) (by simp) (by simp)
    (by rw [List.take_of_length_le (by simp;omega)];simpa [flatC] using hc) (.inr (Nat.le_refl _))
  refine ⟨_,_,?_,⟨h1,ImLe.refl _,h2,fun _ _ _ h=>.inl h⟩,?_⟩
  · simp [newVar,newRow]
  · have:=Rep.ptr (ρ:=newR ρ H.length ⟨w.heap.size,d.cells.length,1,true⟩) (n:=(H ++ [Ob.arr [d]]).length) (im:=im) H.length 0 0 ⟨by simp,by rw [jaD]⟩
    simpa [jaD] using this
omit [Base] in
theorem jf1 {t : TypeId} {f o : Nat} {u : TypeId} (h : fieldT P t f = some (o,u)) : ∃ fs x,P.underlying t = some (.struct fs) /\ fs[f]? = some x /\ x.offset = o /\ x.type = u:=by
  unfold fieldT at h
  split at h
  · rename_i fs hu
    cases hf : fs[f]? with
    | none=>simp [hf] at h
    | some x=>simp [hf] at h;exact ⟨fs,x,hu,hf,h.1,h.2⟩
  · cases h
omit [Base] in
theorem jiT {p q : D} {o : Nat} {pv : Value} (h : moveP p o = some q) (hp : Rep ρ n im pv p) : ∃ b x,pv = .pointer (some ⟨b,x,none⟩) /\ Rep ρ n im (.pointer (some ⟨b,x + o,none⟩)) q:=by
  cases p <;> simp only [moveP] at h <;> try (cases h;done)
  · rename_i r i j
    simp at h;subst h
    cases hp with
    | ptr _ _ _ hr=>exact ⟨_,_,rfl,by have:=Rep.ptr (ρ:=ρ) (im:=im) r i (j + o) hr;rwa [<- Nat.add_assoc] at this⟩
  · rename_i x j
    simp at h;subst h
    cases hp with
    | ept b p _ _ vs hc hl=>exact ⟨_,_,rfl,by have:=Rep.ept (ρ:=ρ) b p x (j + o) vs hc hl;rwa [<- Nat.add_assoc] at this⟩
omit [Base] in
theorem jbL {i : D} {m k : Nat} (h : inRange i m = some k) : ∃ kk v,i = .int kk v /\ 0 <= v /\ v < m /\ v.toNat = k /\ k < m:=by
  unfold inRange at h
  split at h
  · split at h
    · rename_i kk v hc
      simp at h
      exact ⟨kk,v,rfl,hc.1,hc.2,h,by omega⟩
    · cases h
  · cases h
omit [Base] in
theorem jes {t e : TypeId} (h : elemT P t = some e) : P.underlying t = some (.slice e):=by
  unfold elemT at h
  split at h
  · rename_i hu;simp at h;subst h;exact hu
  · cases h
omit [Base] in
theorem jl0 {t : TypeId} {f o z : Nat} {u : TypeId} {p q : D} {pv : Value} (hf : fieldT P t f = some (o,u)) (hs : sizeT P u = some z) (h : moveP p o = some q) (hp : Rep ρ n im pv p) :
    ∃ v,(Instr.fieldAt t pv f).run P w = .ok v w /\ Rep ρ n im v q:=by
  obtain ⟨b,x,rfl,hq⟩:=jiT h hp
  obtain ⟨fs,fd,hu,hfd,ho,ht⟩:=jf1 hf
  obtain ⟨i,hi,hz,hz0⟩:=ja8 hs
  refine ⟨_,?_,hq⟩
  simp [Instr.fieldAt,run_underlying hu,hfd,Instr.sureAddr,fieldPlace,ht,jaP hs,hz0,jaU,ho]
omit [Base] in
theorem jqC {t : TypeId} {f o : Nat} {u : TypeId} {cs : List D} {vs : List Value} {d : D} (hf : fieldT P t f = some (o,u)) (h : partD P u cs o = some d) (hc : RepL ρ n im vs cs) :
    ∃ v,(Instr.field t (.agg ⟨vs⟩) f).run P w = .ok v w /\ Rep ρ n im v d:=by
  obtain ⟨fs,fd,hu,hfd,ho,ht⟩:=jf1 hf
  obtain ⟨v,hp,hv⟩:=jeG h hc
  refine ⟨v,?_,hv⟩
  obtain ⟨m,ag,hs,ha,hle,h1,h2⟩:=hp.ex
  simp only [Instr.field,run_underlying hu,Sem.run_bind,Result.andThen_ok,hfd,asAgg,Sem.run_pure,part,ht,ho,jbG ha,Sem.run_ite]
  cases ag with
  | true=>simp [jaP hs,h1 rfl,List.extract_eq_take_drop,Nat.add_sub_cancel_left]
  | false=>obtain ⟨rfl,hv⟩:=h2 rfl;simp [hv]
omit [Base] in
theorem jbb {z m : Nat} {xs : List D} (h : headSize z xs = true) (hs : ∀ x,x ∈ xs -> x.cells.length = m) : xs = [] ∨ m = z:=by
  cases xs with
  | nil=>exact .inl rfl
  | cons x xs=>
    simp [headSize] at h
    exact .inr (by rw [<- hs x (by simp)];exact h)
omit [Base] in
theorem jtU {xs : List D} {sz k : Nat} {x : D} {vs : List Value} (hs : ∀ x,x ∈ xs -> x.cells.length = sz) (hr : RepL ρ n im vs (flatC xs)) (hx : xs[k]? = some x) :
    RepL ρ n im ((vs.drop (k * sz)).take sz) x.cells:=by
  have:=(hr.drop (k * sz)).take sz
  rwa [jcQ hs hx] at this
omit [Base] in
theorem jbV {vs : List Value} {b o p m : Nat} (hc : ∀ k,k < vs.length -> im b (o + k) = vs[k]?) (hle : p + m <= vs.length) : ∀ k,k < ((vs.drop p).take m).length -> im b (o + p + k) = ((vs.drop p).take m)[k]?:=by
  intro k hk
  simp at hk
  rw [List.getElem?_take_of_lt (by omega),List.getElem?_drop,Nat.add_assoc,hc (p + k) (by omega)]
theorem jjB {t : TypeId} {x i d : D} {vx vi : Value} (hR : Rel ρ im H w) (h : indexAddrD P t H x i = some d) (hx : Rep ρ H.length im vx x) (hi : Rep ρ H.length im vi i) :
    ∃ v,(Instr.indexAt t vx vi).run P w = .ok v w /\ Rep ρ H.length im v d:=by
  unfold indexAddrD at h
  split at h
  · rename_i el hu
    split at h
    · rename_i f xs
      cases hr : inRange i xs.length with
      | none=>simp [hr] at h
      | some k=>
        obtain ⟨kk,v,rfl,h0,h1,h2,h3⟩:=jbL hr
        cases hz : sizeT P el with
        | none=>simp [hr,hz] at h
        | some z=>
          cases hy : xs[k]? with
          | none=>simp [hr,hz,hy] at h
          | some y=>
            simp only [hr,hz,hy,Option.bind_some] at h
            split at h
            · rename_i hcl
              simp at h;subst h
              cases hi
              cases hx with
              | sl0 a cap f hf=>simp at h3
              | sl b o sz cap f _ vs hs hc hl hf hcap=>
                have hzz : sz = z:=by rw [<- hs y (List.mem_of_getElem? hy)];exact hcl
                subst hzz
                have hvl : vs.length = xs.length * sz:=by rw [hl.length,jaE hs]
                have hm : (k + 1) * sz <= xs.length * sz:=Nat.mul_le_mul_right _ h3
                rw [Nat.add_mul,Nat.one_mul] at hm
                refine ⟨.pointer (some ⟨b,o + k * sz + 0,none⟩),?_,.ept b (o + k * sz) y 0 _ (jbV hc (by omega)) (jtU hs hl hy)⟩
                simp [Instr.indexAt,asIntOf,run_underlying hu,h0,h1,jaP hz,jaU,h2]
            · cases h
    · rename_i r o m
      cases hr : inRange i m with
      | none=>simp [hr] at h
      | some k=>
        obtain ⟨kk,v,rfl,h0,h1,h2,h3⟩:=jbL hr
        cases hz : sizeT P el with
        | none=>simp [hr,hz] at h
        | some z=>
          simp only [hr,hz,Option.bind_some] at h
          split at h
          · rename_i hvs
            simp at h;subst h
            cases hi
            cases hx with
            | vec _ _ _ hrl hm=>
              have hsz : (ρ r).sz = z:=by
                have hob:=hR.obj r hrl.lt
                unfold vecSize at hvs
                split at hvs
                · rename_i x xs hg
                  rw [hg] at hob;obtain ⟨_,_,_,_,_,h3,_⟩:=hob
                  rw [<- h3 x (by simp)];simpa using hvs
                · rename_i x xs hg
                  rw [hg] at hob;obtain ⟨_,h3,_⟩:=hob
                  rw [<- h3 x (by simp)];simpa using hvs
                · cases hvs
              refine ⟨_,?_,.ptr r (o + k) 0 hrl⟩
              simp [Instr.indexAt,asIntOf,run_underlying hu,h0,h1,jaP hz,jaU,h2,hsz,Nat.add_mul]
          · cases h
    · cases h
  · rename_i m el hu
    cases hr : inRange i m with
    | none=>simp [hr] at h
    | some k=>
      obtain ⟨kk,v,rfl,h0,h1,h2,h3⟩:=jbL hr
      cases hz : sizeT P el with
      | none=>simp [hr,hz] at h
      | some z=>
        simp only [hr,hz,Option.bind_some] at h
        obtain ⟨b,p,rfl,hq⟩:=jiT h hx
        cases hi
        refine ⟨_,?_,hq⟩
        simp [Instr.indexAt,asIntOf,run_underlying hu,h0,h1,jaP hz,jaU,h2,Instr.sureAddr]
  · cases h
omit [Base] in
theorem jpS {t : TypeId} {x i d : D} {vx vi : Value} (h : indexD P t x i = some d) (hx : Rep ρ n im vx x) (hi : Rep ρ n im vi i) :
    ∃ v,(Instr.index t vx vi).run P w = .ok v w /\ Rep ρ n im v d:=by
  unfold indexD at h
  split at h
  · rename_i m el cs hu
    cases hr : inRange i m with
    | none=>simp [hr] at h
    | some k=>
      obtain ⟨kk,v,rfl,h0,h1,h2,h3⟩:=jbL hr
      cases hz : sizeT P el with
      | none=>simp [hr,hz] at h
      | some z=>
        simp only [hr,hz,Option.bind_some] at h
        cases hi
        cases hx with
        | agg vs _ hl=>
          obtain ⟨v',hp,hv⟩:=jeG h hl
          refine ⟨v',?_,hv⟩
          obtain ⟨m',ag,hs,ha,hle,q1,q2⟩:=hp.ex
          rw [hz] at hs;simp at hs;subst hs
          simp only [Instr.index,asIntOf,run_underlying hu,Sem.run_bind,Sem.run_pure,Result.andThen_ok,Sem.run_ite,h0,h1,and_self,if_true,jaP hz,part,jbG ha,h2]
          cases ag with
          | true=>simp [q1 rfl,List.extract_eq_take_drop,Nat.add_sub_cancel_left]
          | false=>obtain ⟨rfl,hv⟩:=q2 rfl;simp at hv;simp [hv]
  · rename_i s hu
    cases hr : inRange i s.length with
    | none=>simp [hr] at h
    | some k=>
      obtain ⟨kk,v,rfl,h0,h1,h2,h3⟩:=jbL hr
      cases hb : s[k]? with
      | none=>simp [hr,hb] at h
      | some b=>
        simp [hr,hb] at h;subst h
        cases hi
        cases hx with
        | str bs=>
          refine ⟨_,?_,.int _ _⟩
          have hlt : k < bs.size := by have : bs.data.toList.length = bs.size := by rw [Array.length_toList]; rfl
                                       omega
          have : bs[k]? = some b:=by
            rw [getElem?_pos bs k hlt]
            have e : bs.data.toList[k]? = some b:=hb
            simp at e
            obtain ⟨_,e⟩:=Array.getElem?_eq_some_iff.1 e
            exact congrArg some e
          simp [Instr.index,asIntOf,run_underlying hu,h0,h2,this]
  · cases h
end
end Vm
end
section
namespace Vm
open Go Go.RowKit
variable [Base]
section
variable {P : Program} {ρ : Rho} {im : Im} {H : Heap} {w : World} {N n : Nat} {a : Act} {e : Env}
inductive RepO (ρ : Rho) (n : Nat) (im : Im) : Option Value -> Option D -> Prop
  | none : RepO ρ n im none none
  | some (v : Value) (d : D) (h : Rep ρ n im v d) : RepO ρ n im (some v) (some d)
omit [Base] in
theorem jd9 (he : EnvR ρ n im N a e) {o : Option Operand} {d : Option D} (h : evalOo e o = some d) : RepO ρ n im (o.map a.eval) d:=by
  cases o with
  | none=>simp [evalOo] at h;subst h;exact .none
  | some o=>
    simp only [evalOo] at h
    cases h0 : evalO e o with
    | none=>simp [h0] at h
    | some d=>simp [h0] at h;subst h;exact .some _ _ (jai he h0)
omit [Base] in
theorem jbY {x : D} {v : Value} {k dflt : Nat} (h : bound (some x) dflt = some k) (hv : Rep ρ n im v x) : ∃ kk,v = .int kk k:=by
  unfold bound at h
  cases x <;> simp at h
  rename_i kk m
  cases hv
  exact ⟨kk,by rw [<- h.2];simp [Int.toNat_of_nonneg h.1]⟩
omit [Base] in
theorem jaL {kk : IntKind} {k y : Nat} {code : BoundsCode} (h : k <= y) : (Instr.sliceBound (.int kk k) y code).run P w = .ok k w:=by
  have h2 : (k : Int) <= y:=by omega
  simp [Instr.sliceBound,asIntOf,h2]
omit [Base] in
theorem jcv {isSlice : Bool} {len cap l h : Nat} {lo hi : Option Value} {dl dh : Option D} (hlo : RepO ρ n im lo dl) (hhi : RepO ρ n im hi dh) (el : bound dl 0 = some l) (eh : bound dh len = some h) (hle : l <= h) (hc : h <= cap) :
    (Instr.sliceBounds isSlice len cap lo hi none).run P w = .ok (l,h,cap) w:=by
  unfold Instr.sliceBounds
  cases hhi with
  | none=>
    simp [bound] at eh;subst eh
    cases hlo with
    | none=>simp [bound] at el;subst el;simp
    | some v d hv=>obtain ⟨kk,rfl⟩:=jbY el hv;simp [jaL hle]
  | some v d hv=>
    obtain ⟨kk,rfl⟩:=jbY eh hv
    cases hlo with
    | none=>simp [bound] at el;subst el;simp [jaL hc]
    | some v' d' hv'=>obtain ⟨kk',rfl⟩:=jbY el hv';simp [jaL hle,jaL hc]
omit [Base] in
theorem jdi {isSlice : Bool} {len cap l h m : Nat} {lo : Option Value} {hi mx : Value} {dl : Option D} {dh dm : D} (hlo : RepO ρ n im lo dl) (hhi : Rep ρ n im hi dh) (hmx : Rep ρ n im mx dm) (el : bound dl 0 = some l) (eh : bound (some dh) len = some h)
    (em : bound (some dm) 0 = some m) (hle : l <= h) (hm : h <= m) (hc : m <= cap) : (Instr.sliceBounds isSlice len cap lo (some hi) (some mx)).run P w = .ok (l,h,m) w:=by
  unfold Instr.sliceBounds
  obtain ⟨k1,rfl⟩:=jbY eh hhi
  obtain ⟨k2,rfl⟩:=jbY em hmx
  cases hlo with
  | none=>simp [bound] at el;subst el;simp [jaL hc,jaL hm]
  | some v' d' hv'=>obtain ⟨kk',rfl⟩:=jbY el hv';simp [jaL hle,jaL hc,jaL hm]
omit [Base] in
theorem jk1 {xs : List D} {f : Bool} {vx : Value} {z l h cap m : Nat} {f' : Bool} {a0 : Option Addr} (hx : Rep ρ n im (.slice a0 xs.length cap) (.sl f xs)) (hz : headSize z xs = true) (hle : l <= h) (hh : h <= xs.length) (hm : h <= m) (hmc : m <= cap)
    (hf : f' = true -> m = h) : Rep ρ n im (.slice (if m = l then a0 else a0.map (·.add (l * z))) (h - l) (m - l)) (.sl f' ((xs.take h).drop l)):=by
  by_cases he : h = l
  · subst he
    have : (xs.take h).drop h = []:=by simp [List.drop_eq_nil_iff]
    rw [this,Nat.sub_self]
    exact .sl0 _ _ _ (fun h=>by have:=hf h;omega)
  · have hlt : l < h:=by omega
    rw [if_neg (by omega)]
    have gen : ∀ {v : Value} {d : D},Rep ρ n im v d -> v = .slice a0 xs.length cap -> d = .sl f xs -> Rep ρ n im (.slice (a0.map (·.add (l * z))) (h - l) (m - l)) (.sl f' ((xs.take h).drop l)):=by
      intro v d hr hv hd
      cases hr <;> try (cases hd;done)
      · cases hd;simp at hh;omega
      · rename_i b o sz c f0 xs0 vs hs hc hl hf0 hcap
        cases hd
        cases hv
        have hzz : sz = z:=by
          rcases jbb hz hs with h0 | h0
          · subst h0;simp at hh;omega
          · exact h0
        subst hzz
        have hvl : vs.length = xs.length * sz:=by rw [hl.length,jaE hs]
        have hsub : ∀ x,x ∈ (xs.take h).drop l -> x.cells.length = sz:=fun x hx=>hs x (List.mem_of_mem_take (List.mem_of_mem_drop hx))
        have hlen : ((xs.take h).drop l).length = h - l:=by simp;omega
        have hh' : h * sz <= xs.length * sz:=Nat.mul_le_mul_right _ hh
        have hll : l * sz <= h * sz:=Nat.mul_le_mul_right _ hle
        have:=Rep.sl (ρ:=ρ) (n:=n) (im:=im) b (o + l * sz) sz (m - l) f' ((xs.take h).drop l) ((vs.drop (l * sz)).take (h * sz - l * sz)) hsub (jbV hc (by omega))
          (by
            have:=(hl.take (h * sz)).drop (l * sz)
            rw [jbX hs,jbx (fun x hx=>hs x (List.mem_of_mem_take hx))] at this
            rwa [List.drop_take] at this)
          (fun q=>by rw [hlen];have:=hf q;omega) (by rw [hlen];omega)
        rw [hlen] at this
        simpa [jaU] using this
    exact gen hx rfl rfl
omit [Base] in
theorem Rep.sl_inv {v : Value} {f : Bool} {xs : List D} (h : Rep ρ n im v (.sl f xs)) : ∃ a0 cap,v = .slice a0 xs.length cap /\ (f = true -> cap = xs.length) /\ xs.length <= cap:=by
  cases h with
  | sl0 a cap f hf=>exact ⟨a,cap,rfl,hf,Nat.zero_le _⟩
  | sl b o sz cap f xs vs hs hc hl hf hcap=>exact ⟨_,cap,rfl,hf,hcap⟩
theorem jj5 (hR : Rel ρ im H w) {r z : Nat} (hr : r < H.length) (h : vecSize H r z = true) : (ρ r).sz = z:=by
  have hob:=hR.obj r hr
  unfold vecSize at h
  split at h
  · rename_i x xs hg
    rw [hg] at hob;obtain ⟨_,_,_,_,_,h3,_⟩:=hob
    rw [<- h3 x (by simp)];simpa using h
  · rename_i x xs hg
    rw [hg] at hob;obtain ⟨_,h3,_⟩:=hob
    rw [<- h3 x (by simp)];simpa using h
  · cases h
theorem jpL {t : TypeId} {x d : D} {lo hi mx : Option D} {vx : Value} {vlo vhi vmx : Option Value} (hR : Rel ρ im H w) (h : sliceD P t H x lo hi mx = some d) (hx : Rep ρ H.length im vx x)
    (hlo : RepO ρ H.length im vlo lo) (hhi : RepO ρ H.length im vhi hi) (hmx : RepO ρ H.length im vmx mx) : ∃ v,(Instr.sliceAt t vx vlo vhi vmx).run P w = .ok v w /\ Rep ρ H.length im v d:=by
  unfold sliceD at h
  split at h
  · rename_i s hu
    cases hmx
    cases hl : bound lo 0 with
    | none=>simp [hl] at h
    | some l=>
      cases hh : bound hi s.length with
      | none=>simp [hl,hh] at h
      | some k=>
        simp only [hl,hh,Option.bind_some] at h
        split at h
        · rename_i hc
          simp at h;subst h
          cases hx with
          | str bs=>
            have hsz : bs.data.toList.length = bs.size:=by rw [Array.length_toList];rfl
            rw [hsz] at hh hc
            refine ⟨.string (bs.extract l k),?_,?_⟩
            · simp [Instr.sliceAt,Instr.slice,run_underlying hu,jcv hlo hhi hl hh hc.1 hc.2]
            · have : (bs.extract l k).data.toList = (bs.data.toList.take k).drop l:=by
                rw [ByteArray.data_extract];simp [List.extract_eq_take_drop,List.drop_take]
              rw [<- this];exact .str _
        · cases h
  · rename_i el f xs hu
    cases hmx
    cases hz : sizeT P el with
    | none=>simp [hz] at h
    | some z=>
    cases hl : bound lo 0 with
    | none=>simp [hz,hl] at h
    | some l=>
      cases hh : bound hi xs.length with
      | none=>simp [hz,hl,hh] at h
      | some k=>
        simp only [hz,hl,hh,Option.bind_some] at h
        split at h
        · rename_i hc
          simp at h;subst h
          obtain ⟨a0,cap,rfl,hfull,hcap⟩:=hx.sl_inv
          refine ⟨_,?_,jk1 hx hc.2.2 hc.1 hc.2.1 (m:=cap) (by omega) (Nat.le_refl _) (fun q=>?_) (vx:=.slice a0 xs.length cap)⟩
          · simp [Instr.sliceAt,Instr.slice,run_underlying hu,jcv hlo hhi hl hh hc.1 (by omega : k <= cap),jaP hz]
          · simp at q;have:=hfull q.1;omega
        · cases h
  · rename_i el f xs m0 hu
    cases hmx with
    | some vm _ hm=>
    cases hz : sizeT P el with
    | none=>simp [hz] at h
    | some z=>
    cases hl : bound lo 0 with
    | none=>simp [hz,hl] at h
    | some l=>
      cases hh : bound hi xs.length with
      | none=>simp [hz,hl,hh] at h
      | some k=>
        cases hmm : bound (some m0) 0 with
        | none=>simp [hz,hl,hh,hmm] at h
        | some m=>
        simp only [hz,hl,hh,hmm,Option.bind_some] at h
        split at h
        · rename_i hc
          simp at h;subst h
          obtain ⟨a0,cap,rfl,hfull,hcap⟩:=hx.sl_inv
          cases hhi with
          | none=>simp at hc
          | some vh dh hrh=>
          refine ⟨_,?_,jk1 hx hc.2.2.2.1 hc.1 (by omega) (m:=m) hc.2.1 (by omega) (fun q=>?_) (vx:=.slice a0 xs.length cap)⟩
          · simp [Instr.sliceAt,Instr.slice,run_underlying hu,jdi hlo hrh hm hl hh hmm hc.1 hc.2.1 (by omega : m <= cap),jaP hz]
          · simp at q;omega
        · cases h
  · rename_i el r o m hu
    cases hmx
    cases hz : sizeT P el with
    | none=>simp [hz] at h
    | some z=>
    cases hl : bound lo 0 with
    | none=>simp [hz,hl] at h
    | some l=>
      cases hh : bound hi m with
      | none=>simp [hz,hl,hh] at h
      | some k=>
        simp only [hz,hl,hh,Option.bind_some] at h
        split at h
        · rename_i hc
          simp at h;subst h
          cases hx with
          | vec _ _ _ hr hm=>
            have hsz:=jj5 hR hr.lt hc.2.2
            refine ⟨.slice (if (ρ r).cap - o = l then some ⟨(ρ r).b,o * (ρ r).sz,none⟩ else some ((⟨(ρ r).b,o * (ρ r).sz,none⟩ : Addr).add (l * z))) (k - l) ((ρ r).cap - o - l),?_,?_⟩
            · simp [Instr.sliceAt,Instr.slice,run_underlying hu,jcv hlo hhi hl hh hc.1 (by omega : k <= (ρ r).cap - o),jaP hz]
            · by_cases he : l = k
              · rw [if_pos he];subst he;rw [Nat.sub_self];exact .sl0 _ _ _ (by simp)
              · rw [if_neg he,if_neg (by omega),jaU,<- hsz,<- Nat.add_mul,Nat.sub_sub]
                exact .vec r (o + l) (k - l) hr (by omega)
        · cases h
  · rename_i el r o m m0 hu
    cases hmx with
    | some vm _ hm0=>
    cases hz : sizeT P el with
    | none=>simp [hz] at h
    | some z=>
    cases hl : bound lo 0 with
    | none=>simp [hz,hl] at h
    | some l=>
      cases hh : bound hi m with
      | none=>simp [hz,hl,hh] at h
      | some k=>
        cases hmm : bound (some m0) 0 with
        | none=>simp [hz,hl,hh,hmm] at h
        | some mm=>
        simp only [hz,hl,hh,hmm,Option.bind_some] at h
        split at h
        · rename_i hc
          simp at h;subst h
          obtain ⟨c1,c2,c3,c4,c5⟩:=hc
          subst c1 c2
          cases hx with
          | vec _ _ _ hr hm=>
            cases hhi with
            | none=>simp at c5
            | some vh dh hrh=>
            refine ⟨.slice (if (l = l) then some ⟨(ρ r).b,o * (ρ r).sz,none⟩ else some ((⟨(ρ r).b,o * (ρ r).sz,none⟩ : Addr).add (l * z))) (l - l) (l - l),?_,?_⟩
            · simp [Instr.sliceAt,Instr.slice,run_underlying hu,jdi hlo hrh hm0 hl hh hmm (Nat.le_refl _) (Nat.le_refl _) (by omega : l <= (ρ r).cap - o),jaP hz]
            · rw [Nat.sub_self];exact .sl0 _ _ _ (fun _=>rfl)
        · cases h
  · cases h
end
end Vm
end
section
namespace Vm
open Go Go.RowKit
variable [Base]
omit [Base] in
theorem jaY {d : D} {r l : List D} (h : stripL (d :: r) = some l) : ∃ d' r',strip d = some d' /\ stripL r = some r' /\ l = d' :: r':=by
  simp only [stripL] at h
  cases h0 : strip d with
  | none=>simp [h0] at h
  | some d'=>
    cases h1 : stripL r with
    | none=>simp [h0,h1] at h
    | some r'=>simp [h0,h1] at h;exact ⟨d',r',rfl,rfl,h.symm⟩
omit [Base] in
theorem jjx {a b a' b' : List D} (h : stripL a = some a') (k : stripL b = some b') : stripL (a ++ b) = some (a' ++ b'):=by
  induction a generalizing a' with
  | nil=>simp [stripL] at h;subst h;simpa using k
  | cons d r ih=>
    obtain ⟨d',r',h0,h1,rfl⟩:=jaY h
    simp [stripL,h0,ih h1]
omit [Base] in
theorem jf4 {d d' : D} (h : strip d = some d') : stripL d.cells = some d'.cells:=by
  cases d <;> simp only [strip] at h <;> try (cases h;done)
  case agg cs=>
    cases hc : stripL cs with
    | none=>simp [hc] at h
    | some l=>simp [hc] at h;subst h;simpa [D.cells] using hc
  case sl f xs=>
    cases hc : stripL xs with
    | none=>simp [hc] at h
    | some l=>simp [hc] at h;subst h;simp [D.cells,stripL,strip,hc]
  case tup xs=>
    cases hc : stripL xs with
    | none=>simp [hc] at h
    | some l=>simp [hc] at h;subst h;simp [D.cells,stripL,strip,hc]
  all_goals (simp at h;subst h;simp [D.cells,stripL,strip])
omit [Base] in
theorem jeA {a b : List D} (h : stripL a = some b) : a.length = b.length:=by
  induction a generalizing b with
  | nil=>simp [stripL] at h;subst h;rfl
  | cons d r ih=>obtain ⟨d',r',h0,h1,rfl⟩:=jaY h;simp [ih h1]
omit [Base] in
theorem jhv {d d' : D} (h : strip d = some d') : d'.cells.length = d.cells.length:=(jeA (jf4 h)).symm
omit [Base] in
theorem jfV {a b : List D} (h : stripL a = some b) : stripL (flatC a) = some (flatC b):=by
  induction a generalizing b with
  | nil=>simp [stripL] at h;subst h;rfl
  | cons d r ih=>
    obtain ⟨d',r',h0,h1,rfl⟩:=jaY h
    simpa [flatC] using jjx (jf4 h0) (ih h1)
omit [Base] in
theorem jp7 {a b : List D} {sz : Nat} (h : stripL a = some b) (hs : ∀ x,x ∈ a -> x.cells.length = sz) : ∀ x,x ∈ b -> x.cells.length = sz:=by
  induction a generalizing b with
  | nil=>simp [stripL] at h;subst h;simp
  | cons d r ih=>
    obtain ⟨d',r',h0,h1,rfl⟩:=jaY h
    intro x hx
    rcases List.mem_cons.1 hx with rfl | hx
    · rw [jhv h0];exact hs d (by simp)
    · exact ih h1 (fun x hx=>hs x (by simp [hx])) x hx
section
variable {ρ : Rho} {n : Nat} {im : Im}
omit [Base] in
mutual
theorem Rep.strip : ∀ {v : Value} {d d' : D},Rep ρ n im v d -> Vm.strip d = some d' -> Rep ρ n im v d'
  | _,_,_,.bool b,h=>by simp [Vm.strip] at h;subst h;exact .bool b
  | _,_,_,.int k m,h=>by simp [Vm.strip] at h;subst h;exact .int k m
  | _,_,_,.str s,h=>by simp [Vm.strip] at h;subst h;exact .str s
  | _,_,_,.nilp,h=>by simp [Vm.strip] at h;subst h;exact .nilp
  | _,_,_,.ptr r i j hr,h=>by simp [Vm.strip] at h
  | _,_,_,.ept b o x j vs hc hl,h=>by simp [Vm.strip] at h
  | _,_,_,.sl0 a cap f hf,h=>by simp [Vm.strip,stripL] at h;subst h;exact .sl0 a cap false (by simp)
  | _,_,_,.sl b o sz cap f xs vs hs hc hl hf hcap,h=>by
    simp only [Vm.strip] at h
    cases hx : stripL xs with
    | none=>simp [hx] at h
    | some l=>
      simp [hx] at h;subst h
      have hlen:=jeA hx
      rw [hlen]
      exact .sl b o sz cap false l vs (jp7 hx hs) hc (RepL.strip hl (jfV hx)) (by simp) (by omega)
  | _,_,_,.vec r o m hr hm,h=>by simp [Vm.strip] at h
  | _,_,_,.map r hr,h=>by simp [Vm.strip] at h
  | _,_,_,.nilm,h=>by simp [Vm.strip] at h;subst h;exact .nilm
  | _,_,_,.fn f vs cs hl,h=>by simp [Vm.strip] at h
  | _,_,_,.bfn f vs cs hl,h=>by simp [Vm.strip] at h
  | _,_,_,.niln,h=>by simp [Vm.strip] at h;subst h;exact .niln
  | _,_,_,.iface t v d hv,h=>by simp [Vm.strip] at h
  | _,_,_,.nili,h=>by simp [Vm.strip] at h;subst h;exact .nili
  | _,_,_,.agg vs cs hl,h=>by
    simp only [Vm.strip] at h
    cases hx : stripL cs with
    | none=>simp [hx] at h
    | some l=>simp [hx] at h;subst h;exact .agg vs l (RepL.strip hl hx)
  | _,_,_,.tup vs cs hl,h=>by
    simp only [Vm.strip] at h
    cases hx : stripL cs with
    | none=>simp [hx] at h
    | some l=>simp [hx] at h;subst h;exact .tup vs l (RepA.strip hl hx)
  | _,_,_,.yld r hr,h=>by simp [Vm.strip] at h
theorem RepL.strip : ∀ {vs : List Value} {ds ds' : List D},RepL ρ n im vs ds -> stripL ds = some ds' -> RepL ρ n im vs ds'
  | _,_,_,.nil,h=>by simp [stripL] at h;subst h;exact .nil
  | _,_,_,.cons v d vs ds h1 hv hr,h=>by
    obtain ⟨d',r',h0,h2,rfl⟩:=jaY h
    exact .cons v d' vs r' h1 (Rep.strip hv h0) (RepL.strip hr h2)
theorem RepA.strip : ∀ {vs : List Value} {ds ds' : List D},RepA ρ n im vs ds -> stripL ds = some ds' -> RepA ρ n im vs ds'
  | _,_,_,.nil,h=>by simp [stripL] at h;subst h;exact .nil
  | _,_,_,.cons v d vs ds hv hr,h=>by
    obtain ⟨d',r',h0,h2,rfl⟩:=jaY h
    exact .cons v d' vs r' (Rep.strip hv h0) (RepA.strip hr h2)
end
abbrev cellsV (us : List Value) : List Value:=us.flatMap fun v=>v.cells.toList
omit [Base] in
theorem RepL.split {a b : List D} : ∀ {vs : List Value},RepL ρ n im vs (a ++ b) -> ∃ v1 v2,vs = v1 ++ v2 /\ RepL ρ n im v1 a /\ RepL ρ n im v2 b:=by
  induction a with
  | nil=>intro vs h;exact ⟨[],vs,rfl,.nil,h⟩
  | cons d r ih=>
    intro vs h
    cases h with
    | cons v _ vs' _ h1 hv hr=>
      obtain ⟨v1,v2,rfl,p,q⟩:=ih hr
      exact ⟨v :: v1,v2,rfl,.cons _ _ _ _ h1 hv p,q⟩
omit [Base] in
theorem Rep.notTup {v : Value} {d : D} (h : Rep ρ n im v d) (h1 : v.oneCell' = true) : ∀ l,d ≠ .tup l:=by
  rintro l rfl;cases h;simp [Value.oneCell'] at h1
omit [Base] in
theorem jnI {d : D} {vs : List Value} (h : RepL ρ n im vs d.cells) : ∃ u,Rep ρ n im u d /\ u.cells.toList = vs /\ ∀ l,d ≠ .tup l:=by
  by_cases hd : ∃ cs,d = .agg cs
  · obtain ⟨cs,rfl⟩:=hd
    exact ⟨.agg ⟨vs⟩,.agg vs cs h,by simp [Value.cells],fun l e=>by cases e⟩
  · have e : d.cells = [d]:=by cases d <;> first | rfl | exact (hd ⟨_,rfl⟩).elim
    rw [e] at h
    cases h with
    | cons v _ _ _ h1 hv hr=>
      cases hr
      refine ⟨v,hv,?_,hv.notTup h1⟩
      cases v <;> simp [Value.oneCell'] at h1 <;> rfl
omit [Base] in
theorem jdM {xs : List D} : ∀ {vs : List Value},RepL ρ n im vs (flatC xs) -> ∃ us,RepA ρ n im us xs /\ cellsV us = vs /\ ∀ x,x ∈ xs -> ∀ l,x ≠ .tup l:=by
  induction xs with
  | nil=>intro vs h;cases h;exact ⟨[],.nil,rfl,by simp⟩
  | cons x xs ih=>
    intro vs h
    obtain ⟨v1,v2,rfl,p,q⟩:=RepL.split (a:=x.cells) (b:=flatC xs) (by simpa [flatC] using h)
    obtain ⟨u,hu,hc,hn⟩:=jnI p
    obtain ⟨us,hus,hcs,hns⟩:=ih q
    refine ⟨u :: us,.cons _ _ _ _ hu hus,by simp [hc,<- hcs],?_⟩
    intro y hy
    rcases List.mem_cons.1 hy with rfl | hy
    · exact hn
    · exact hns y hy
omit [Base] in
theorem jgb {us : List Value} {xs : List D} (h : RepA ρ n im us xs) (hn : ∀ x,x ∈ xs -> ∀ l,x ≠ .tup l) : RepL ρ n im (cellsV us) (flatC xs):=by
  induction xs generalizing us with
  | nil=>cases h;exact .nil
  | cons x xs ih=>
    cases h with
    | cons u _ us _ hu hr=>simpa [flatC] using (hu.cells (hn x (by simp))).append (ih hr (fun y hy=>hn y (by simp [hy])))
omit [Base] in
theorem jeF {us : List Value} {xs ys : List D} {sz : Nat} {ρ' : Rho} {n' : Nat} {im' : Im} (h : RepA ρ n im us xs) (k : RepA ρ' n' im' us ys) (hn : ∀ x,x ∈ xs -> ∀ l,x ≠ .tup l) (hn' : ∀ x,x ∈ ys -> ∀ l,x ≠ .tup l)
    (hs : ∀ x,x ∈ xs -> x.cells.length = sz) : ∀ y,y ∈ ys -> y.cells.length = sz:=by
  induction xs generalizing us ys with
  | nil=>cases h;cases k;simp
  | cons x xs ih=>
    cases h with
    | cons u _ us _ hu hr=>
      cases k with
      | cons _ y _ ys hy hk=>
        intro z hz
        rcases List.mem_cons.1 hz with rfl | hz
        · have h1:=(hu.cells (hn x (by simp))).length
          have h2:=(hy.cells (hn' z (by simp))).length
          rw [<- h2,h1];exact hs x (by simp)
        · exact ih hr hk (fun y hy=>hn y (by simp [hy])) (fun y hy=>hn' y (by simp [hy])) (fun y hy=>hs y (by simp [hy])) z hz
end
def PurOk (f : Heap -> D -> Option (D × Heap)) : Prop:=
  ∀ (H : Heap) (d d' : D) (H' : Heap) (ρ : Rho) (im : Im) (w : World) (v : Value),Rel ρ im H w -> Rep ρ H.length im v d -> f H d = some (d',H') ->
    ∃ im',Mv ρ im H w ρ im' H' w /\ Rep ρ H'.length im' v d' /\ ((∀ l,d ≠ .tup l) -> ∀ l,d' ≠ .tup l)
theorem jdc {f : Heap -> D -> Option (D × Heap)} (hf : PurOk f) : ∀ (l : List D) (l' : List D) (H H' : Heap) (ρ : Rho) (im : Im) (w : World) (vs : List Value),Rel ρ im H w -> RepA ρ H.length im vs l -> purL f H l = some (l',H') ->
    ∃ im',Mv ρ im H w ρ im' H' w /\ RepA ρ H'.length im' vs l' /\ ((∀ x,x ∈ l -> ∀ t,x ≠ .tup t) -> ∀ x,x ∈ l' -> ∀ t,x ≠ .tup t)
  | [],l',H,H',ρ,im,w,vs,hR,hl,h=>by
    simp [purL] at h;obtain ⟨rfl,rfl⟩:=h
    cases hl;exact ⟨im,Mv.refl hR,.nil,fun _=>by simp⟩
  | d :: r,l',H,H',ρ,im,w,vs,hR,hl,h=>by
    cases hl with
    | cons v _ vs _ hv hr=>
      simp only [purL] at h
      cases h0 : f H d with
      | none=>simp [h0] at h
      | some p=>
        obtain ⟨d',H1⟩:=p
        simp only [h0,Option.bind_some] at h
        cases h1 : purL f H1 r with
        | none=>simp [h1] at h
        | some q=>
          obtain ⟨r',H2⟩:=q
          simp [h1] at h
          obtain ⟨rfl,rfl⟩:=h
          obtain ⟨im1,m1,rep1,nt1⟩:=hf H d d' H1 ρ im w v hR hv h0
          obtain ⟨im2,m2,rep2,nt2⟩:=jdc hf r r' H1 H2 ρ im1 w vs m1.rel (m1.repA hr) h1
          refine ⟨im2,m1.trans m2,.cons _ _ _ _ (m2.rep rep1) rep2,fun hn x hx=>?_⟩
          rcases List.mem_cons.1 hx with rfl | hx
          · exact nt1 (hn d (by simp))
          · exact nt2 (fun y hy=>hn y (by simp [hy])) x hx
omit [Base] in
theorem jj6 {d d' : D} (h : strip d = some d') (hn : ∀ l,d ≠ .tup l) : ∀ l,d' ≠ .tup l:=by
  cases d <;> simp only [strip] at h <;> try (cases h;done)
  case tup l=>exact absurd rfl (hn l)
  case agg cs=>cases hc : stripL cs <;> simp [hc] at h;subst h;exact fun l e=>by cases e
  case sl f cs=>cases hc : stripL cs <;> simp [hc] at h;subst h;exact fun l e=>by cases e
  all_goals (simp at h;subst h;exact fun l e=>by cases e)
omit [Base] in
theorem ji6 {ρ : Rho} {im : Im} {n o m : Nat} {xs ys : List D} {us : List Value} {sz cap b : Nat} {vs : List Value} (hs : ∀ x,x ∈ xs -> x.cells.length = sz) (hlen : o + m <= xs.length)
    (hvs : vs.length = xs.length * sz) (hc : ∀ k,k < vs.length -> im b k = vs[k]?) (hus : cellsV us = ((vs.drop (o * sz)).take (m * sz))) (hy : RepA ρ n im us ys)
    (hn : ∀ x,x ∈ ys -> ∀ l,x ≠ .tup l) (hsy : ∀ y,y ∈ ys -> y.cells.length = sz) (hyl : ys.length = m) (hcap : m <= cap) :
    Rep ρ n im (.slice (some ⟨b,o * sz,none⟩) m cap) (.sl false ys):=by
  have hm : (o + m) * sz <= xs.length * sz:=Nat.mul_le_mul_right _ hlen
  rw [Nat.add_mul] at hm
  rw [<- hyl]
  refine .sl b (o * sz) sz cap false ys (cellsV us) hsy (fun k hk=>?_) (jgb hy hn) (by simp) (by omega)
  rw [hus] at hk ⊢
  simp at hk
  rw [List.getElem?_take_of_lt (by omega),List.getElem?_drop,hc _ (by omega)]
theorem jgU : ∀ k,PurOk (pur k)
  | 0=>fun H d d' H' ρ im w v hR hv h=>by simp [pur] at h
  | k + 1=>fun H d d' H' ρ im w v hR hv h=>by
    have ih:=jgU k
    simp only [pur] at h
    cases hst : strip d with
    | some d1=>
      simp [hst] at h
      obtain ⟨rfl,rfl⟩:=h
      exact ⟨im,Mv.refl hR,hv.strip hst,jj6 hst⟩
    | none=>
      simp only [hst] at h
      cases d <;> simp only at h <;> try (cases h;done)
      case agg cs=>
        cases hp : purL (pur k) H cs with
        | none=>simp [hp] at h
        | some q=>
          obtain ⟨l,H1⟩:=q
          simp [hp] at h
          obtain ⟨rfl,rfl⟩:=h
          cases hv with
          | agg vs _ hl=>
            obtain ⟨im',m1,rep,nt⟩:=jdc ih _ _ _ _ ρ im w vs hR hl.toA hp
            refine ⟨im',m1,.agg vs l ?_,fun _ l e=>by cases e⟩
            have hone:=hl.one
            have gen : ∀ {vs : List Value} {l : List D},(∀ v ∈ vs,v.oneCell' = true) -> RepA ρ H1.length im' vs l -> RepL ρ H1.length im' vs l:=by
              intro vs l h1 hA
              induction vs generalizing l with
              | nil=>cases hA;exact .nil
              | cons v vs ih=>cases hA with | cons _ d _ ds hd hr=>exact .cons _ _ _ _ (h1 v (by simp)) hd (ih (fun u hu=>h1 u (by simp [hu])) hr)
            exact gen hone rep
      case tup cs=>
        cases hp : purL (pur k) H cs with
        | none=>simp [hp] at h
        | some q=>
          obtain ⟨l,H1⟩:=q
          simp [hp] at h
          obtain ⟨rfl,rfl⟩:=h
          cases hv with
          | tup vs _ hl=>
            obtain ⟨im',m1,rep,nt⟩:=jdc ih _ _ _ _ ρ im w vs hR hl hp
            exact ⟨im',m1,.tup vs l rep,fun hn=>absurd rfl (hn cs)⟩
      case vec r o m=>
        cases hv with
        | vec _ _ _ hrO hm=>
          have hr:=hrO.lt
          cases hx : hget H r with
          | dead=>simp [hx] at h
          | loop l=>simp [hx] at h
          | map es=>simp [hx] at h
          | arr xs=>
            simp only [hx] at h
            split at h
            · rename_i hle
              cases hp : purL (pur k) (H.set r (.fro xs)) ((xs.drop o).take m) with
              | none=>simp [hp] at h
              | some q=>
                obtain ⟨l,H1⟩:=q
                simp [hp] at h
                obtain ⟨rfl,rfl⟩:=h
                obtain ⟨vs0,hR1,hle1,htr1⟩:=hR.freeze hr hx
                have m1 : Mv ρ im H w ρ _ (H.set r (.fro xs)) w:=⟨hR1,hle1,htr1,fun b o v hv=>by
                  by_cases e : b = (ρ r).b
                  · exact .inr (.inr ⟨r,hr,by rw [hx];trivial,e.symm⟩)
                  · simp [imAdd,e] at hv;exact .inl hv⟩
                have hob:=hR1.obj r (by simpa using hr)
                rw [jad hr] at hob
                obtain ⟨vs,h1,h2,h3,h4⟩:=hob
                have hsub : RepL ρ (H.set r (.fro xs)).length (imAdd im (ρ r).b vs0) ((vs.drop (o * (ρ r).sz)).take (m * (ρ r).sz)) (flatC ((xs.drop o).take m)):=by
                  have:=(h3.drop (o * (ρ r).sz)).take (m * (ρ r).sz)
                  rwa [jbx h1,jbX (fun x hx=>h1 x (List.mem_of_mem_drop hx))] at this
                obtain ⟨us,hus,hcs,hns⟩:=jdM hsub
                obtain ⟨im',m2,rep,nt⟩:=jdc ih _ _ _ _ ρ _ w us hR1 hus hp
                refine ⟨im',m1.trans m2,?_,fun _ l e=>by cases e⟩
                have hsx : ∀ x,x ∈ (xs.drop o).take m -> x.cells.length = (ρ r).sz:=fun x hx=>h1 x (List.mem_of_mem_drop (List.mem_of_mem_take hx))
                refine ji6 (xs:=xs) (us:=us) (vs:=vs) h1 hle (by rw [h3.length,jaE h1]) ?_ hcs rep (nt hns) (jeF hus rep hns (nt hns) hsx) ?_ (by omega)
                · intro j hj
                  have:=h4 j hj
                  rw [List.getElem?_eq_getElem hj] at this ⊢
                  exact m2.le.le _ _ _ this
                · rw [<- rep.length,hus.length];simp;omega
            · cases h
          | fro xs=>
            simp only [hx] at h
            split at h
            · rename_i hle
              cases hp : purL (pur k) H ((xs.drop o).take m) with
              | none=>simp [hp] at h
              | some q=>
                obtain ⟨l,H1⟩:=q
                simp [hp] at h
                obtain ⟨rfl,rfl⟩:=h
                have hob:=hR.obj r hr
                rw [hx] at hob
                obtain ⟨vs,h1,h2,h3,h4⟩:=hob
                have hsub : RepL ρ H.length im ((vs.drop (o * (ρ r).sz)).take (m * (ρ r).sz)) (flatC ((xs.drop o).take m)):=by
                  have:=(h3.drop (o * (ρ r).sz)).take (m * (ρ r).sz)
                  rwa [jbx h1,jbX (fun x hx=>h1 x (List.mem_of_mem_drop hx))] at this
                obtain ⟨us,hus,hcs,hns⟩:=jdM hsub
                obtain ⟨im',m2,rep,nt⟩:=jdc ih _ _ _ _ ρ _ w us hR hus hp
                refine ⟨im',m2,?_,fun _ l e=>by cases e⟩
                have hsx : ∀ x,x ∈ (xs.drop o).take m -> x.cells.length = (ρ r).sz:=fun x hx=>h1 x (List.mem_of_mem_drop (List.mem_of_mem_take hx))
                refine ji6 (xs:=xs) (us:=us) (vs:=vs) h1 hle (by rw [h3.length,jaE h1]) ?_ hcs rep (nt hns) (jeF hus rep hns (nt hns) hsx) ?_ (by omega)
                · intro j hj
                  have:=h4 j hj
                  rw [List.getElem?_eq_getElem hj] at this ⊢
                  exact m2.le.le _ _ _ this
                · rw [<- rep.length,hus.length];simp;omega
            · cases h
theorem jgF {l l' : List D} {H H' : Heap} {ρ : Rho} {im : Im} {w : World} {vs : List Value} (hR : Rel ρ im H w) (hl : RepA ρ H.length im vs l) (h : pures H l = some (l',H')) :
    ∃ im',Mv ρ im H w ρ im' H' w /\ RepA ρ H'.length im' vs l' /\ ((∀ x,x ∈ l -> ∀ t,x ≠ .tup t) -> ∀ x,x ∈ l' -> ∀ t,x ≠ .tup t):=
  jdc (jgU deepest) l l' H H' ρ im w vs hR hl h
theorem jrf {l l' : List D} {H H' : Heap} {ρ : Rho} {im : Im} {w : World} {vs : List Value} (hR : Rel ρ im H w) (hl : RepA ρ H.length im vs l) (h : puresA H l = some (l',H')) :
    ∃ im',Mv ρ im H w ρ im' H' w /\ RepA ρ H'.length im' vs l' /\ ((∀ x,x ∈ l -> ∀ t,x ≠ .tup t) -> ∀ x,x ∈ l' -> ∀ t,x ≠ .tup t):=by
  unfold puresA at h
  split at h
  · cases h
    exact ⟨im,Mv.refl hR,hl,fun h=>h⟩
  · exact jgF hR hl h
end Vm
end
section
namespace Vm
open Go Go.RowKit
variable [Base]
section
variable {P : Program} {ρ : Rho} {im : Im} {H : Heap} {w w' : World} {n : Nat}
theorem Rel.replace (h : Rel ρ im H w) {r : Nat} (hr : r < H.length) (hl : live (hget H r)) {ob : Ob} (hb : ∀ b,b ≠ (ρ r).b -> w'.heap[b]? = w.heap[b]?) (hs : w'.heap.size = w.heap.size)
    (ho : w'.os = w.os) (ht : w'.tape = w.tape) (hout : w'.output = w.output) (hob : ObOk (newR ρ H.length (ρ r)) (H.length + 1) im w' (ρ r) ob) :
    Rel (newR ρ H.length (ρ r)) im (H.set r .dead ++ [ob]) w' /\ Tr ρ H w (newR ρ H.length (ρ r)) (H.set r .dead ++ [ob]) w':=by
  have h1 : Rel ρ im (H.set r .dead) w':=h.setOb hr hl hb trivial
  have hlen : (H.set r Ob.dead).length = H.length:=by simp
  have lv : ∀ s,s < H.length -> live (hget (H.set r .dead) s) -> r ≠ s /\ live (hget H s):=fun s hs hls=>by
    by_cases e : r = s
    · subst e;rw [jad hr] at hls;exact hls.elim
    · rw [jaa e] at hls;exact ⟨e,hls⟩
  constructor
  · have:=h1.push (g:=ρ r) (ob:=ob) (fun s hs' hls=>by
      rw [hlen] at hs'
      obtain ⟨e,hls'⟩:=lv s hs' hls
      exact (h.sep r s hr hs' e hl hls').symm) (fun _=>h.own r hr hl) (h.on r hr (jcg hl)) (by rw [hlen];exact hob)
    rwa [hlen] at this
  · refine ⟨ho,ht,hout,by omega,by simp,fun s hs'=>jaC hs',fun b hbs hn=>hb b (fun e=>hn r hr hl e.symm),fun s hs' hls hlt=>?_⟩
    simp only [List.length_append,List.length_singleton,hlen] at hs'
    rcases Nat.lt_succ_iff_lt_or_eq.1 hs' with h' | h'
    · rw [jat (by rw [hlen];exact h')] at hls
      exact ⟨s,h',(lv s h' hls).2,by rw [jaC h']⟩
    · subst h'
      exact ⟨r,hr,hl,by rw [jaD]⟩
theorem jc9 (hR : Rel ρ im H w) {d : D} {v : Value} {xs : List D} (hv : Rep ρ H.length im v d) (h : elems H d = some xs) :
    ∃ a0 cap sz vs,v = .slice a0 xs.length cap /\ RepL ρ H.length im vs (flatC xs) /\ (∀ x,x ∈ xs -> x.cells.length = sz) /\ xs.length <= cap /\ (xs ≠ [] -> ∃ b o,a0 = some ⟨b,o,none⟩ /\ ∀ k,k < vs.length -> w.cell? ⟨b,o + k,none⟩ = vs[k]?):=by
  cases d <;> simp only [elems] at h <;> try (cases h;done)
  case sl f ys=>
    simp at h;subst h
    cases hv with
    | sl0 a cap f hf=>exact ⟨a,cap,0,[],rfl,.nil,by simp,Nat.zero_le _,fun h=>absurd rfl h⟩
    | sl b o sz cap f _ vs hs hc hl hf hcap=>
      refine ⟨_,cap,sz,vs,rfl,hl,hs,hcap,fun _=>⟨b,o,rfl,fun k hk=>?_⟩⟩
      have:=hc k hk
      rw [List.getElem?_eq_getElem hk] at this ⊢
      exact hR.imc _ _ _ this
  case vec r o m=>
    cases hv with
    | vec _ _ _ hrO hm=>
      have hr:=hrO.lt
      have hob:=hR.obj r hr
      cases hx : hget H r with
      | dead=>simp [hx] at h
      | loop l=>simp [hx] at h
      | map es=>simp [hx] at h
      | arr ys=>
        rw [hx] at hob
        simp only [hx] at h
        split at h
        · rename_i hle
          simp at h;subst h
          obtain ⟨c,t,fz,h1,h2,h3,h4,h5,h6⟩:=hob
          have hlen : ((ys.drop o).take m).length = m:=by simp;omega
          have hmm : (o + m) * (ρ r).sz <= ys.length * (ρ r).sz:=Nat.mul_le_mul_right _ hle
          have hcc : ys.length * (ρ r).sz <= (ρ r).cap * (ρ r).sz:=Nat.mul_le_mul_right _ h4
          rw [Nat.add_mul] at hmm
          refine ⟨_,_,(ρ r).sz,((c.toList.take (ys.length * (ρ r).sz)).drop (o * (ρ r).sz)).take (m * (ρ r).sz),by rw [hlen],?_,fun x hx=>h3 x (List.mem_of_mem_drop (List.mem_of_mem_take hx)),by rw [hlen];omega,fun _=>⟨_,_,rfl,fun k hk=>?_⟩⟩
          · have:=(h5.drop (o * (ρ r).sz)).take (m * (ρ r).sz)
            rwa [jbx h3,jbX (fun x hx=>h3 x (List.mem_of_mem_drop hx))] at this
          · simp at hk
            rw [List.getElem?_take_of_lt (by omega),List.getElem?_drop,List.getElem?_take_of_lt (by omega)]
            simp [World.cell?,h1]
        · cases h
      | fro ys=>
        rw [hx] at hob
        simp only [hx] at h
        split at h
        · rename_i hle
          simp at h;subst h
          obtain ⟨vs,h1,h2,h3,h4⟩:=hob
          have hlen : ((ys.drop o).take m).length = m:=by simp;omega
          have hmm : (o + m) * (ρ r).sz <= ys.length * (ρ r).sz:=Nat.mul_le_mul_right _ hle
          rw [Nat.add_mul] at hmm
          have hvl : vs.length = ys.length * (ρ r).sz:=by rw [h3.length,jaE h1]
          refine ⟨_,_,(ρ r).sz,(vs.drop (o * (ρ r).sz)).take (m * (ρ r).sz),by rw [hlen],?_,fun x hx=>h1 x (List.mem_of_mem_drop (List.mem_of_mem_take hx)),by rw [hlen];omega,fun _=>⟨_,_,rfl,fun k hk=>?_⟩⟩
          · have:=(h3.drop (o * (ρ r).sz)).take (m * (ρ r).sz)
            rwa [jbx h1,jbX (fun x hx=>h1 x (List.mem_of_mem_drop hx))] at this
          · simp at hk
            rw [List.getElem?_take_of_lt (by omega),List.getElem?_drop]
            have h5:=h4 (o * (ρ r).sz + k) (by omega)
            rw [List.getElem?_eq_getElem (by omega)] at h5 ⊢
            exact hR.imc _ _ _ h5
        · cases h
omit [Base] in
theorem jqp (s : ByteArray) : RepL ρ n im (byteCells s) (flatC (bytesOf s.data.toList)):=by
  unfold byteCells bytesOf
  generalize s.data.toList = l
  induction l with
  | nil=>exact .nil
  | cons b l ih=>simp only [List.map_cons,flatC,List.flatMap_cons];exact .cons _ _ _ _ rfl (.int _ _) ih
theorem jit (hR : Rel ρ im H w) {d : D} {v : Value} {ys : List D} {H1 : Heap} {z : Nat} {tx : TypeId} (hk : (∃ e',P.underlying tx = some (.slice e')) ∨ P.underlying tx = some .string) (hv : Rep ρ H.length im v d)
    (h : addedD H d = some (ys,H1)) (hz : headSize z ys = true) :
    ∃ im1 vs,Mv ρ im H w ρ im1 H1 w /\ RepL ρ H1.length im1 vs (flatC ys) /\ (∀ y,y ∈ ys -> y.cells.length = z) /\ Src P z tx v ys.length vs w:=by
  by_cases hs : ∃ s,d = .str s
  · obtain ⟨s,rfl⟩:=hs
    simp [addedD] at h
    obtain ⟨rfl,rfl⟩:=h
    cases hv with
    | str bs=>
      have hsz : ∀ y,y ∈ bytesOf bs.data.toList -> y.cells.length = 1:=by
        intro y hy;simp [bytesOf] at hy;obtain ⟨b,_,rfl⟩:=hy;rfl
      have hl : (bytesOf bs.data.toList).length = bs.size:=by unfold bytesOf;rw [List.length_map,Array.length_toList];rfl
      refine ⟨im,byteCells bs,Mv.refl hR,jqp bs,?_,?_⟩
      · rcases jbb hz hsz with h0 | h0
        · rw [h0];simp
        · intro y hy;rw [hsz y hy,h0]
      · have key : Src P z tx (.string bs) bs.size (byteCells bs) w:=by
          refine ⟨hk,fun _=>rfl,?_,?_,?_,?_⟩
          · simpa [Builtin.firstCells] using firstCells_string (P:=P) bs w
          · simpa [Builtin.firstCells] using firstCells_string (P:=P) bs w.drew
          · rw [byteCells_length]
            rcases jbb hz hsz with h0 | h0
            · have : bs.size = 0:=by rw [<- hl,h0];rfl
              simp [this]
            · rw [<- h0];simp
          · intro u hu;unfold byteCells at hu;obtain ⟨_,_,rfl⟩:=List.mem_map.1 hu;rfl
        rw [hl];exact key
  · have ha : addedD H d = (elems H d).bind fun xs=>puresA H xs:=by
      cases d <;> first | rfl | exact absurd ⟨_,rfl⟩ hs
    have he : ∃ xs,elems H d = some xs /\ puresA H xs = some (ys,H1):=by
      rw [ha] at h
      cases hel : elems H d with
      | none=>simp [hel] at h
      | some xs=>exact ⟨xs,rfl,by simpa [hel] using h⟩
    obtain ⟨xs,he,hp⟩:=he
    obtain ⟨a0,cap,sz,vs,rfl,hl,hsz,hcap,hmem⟩:=jc9 hR hv he
    obtain ⟨us,hus,hcs,hns⟩:=jdM hl
    obtain ⟨im1,m1,rep,nt⟩:=jrf hR hus hp
    have hlen : ys.length = xs.length:=by rw [<- rep.length,hus.length]
    have hsy:=jeF hus rep hns (nt hns) hsz
    have hl1 : RepL ρ H1.length im1 vs (flatC ys):=by rw [<- hcs];exact jgb rep (nt hns)
    have hszz : ∀ y,y ∈ ys -> y.cells.length = z:=by
      rcases jbb hz hsy with h0 | h0
      · rw [h0];simp
      · intro y hy;rw [hsy y hy,h0]
    refine ⟨im1,vs,m1,hl1,hszz,?_⟩
    have hvl : vs.length = ys.length * z:=by rw [hl1.length,jaE hszz]
    have fin : ∀ (hk' : ∃ e',P.underlying tx = some (.slice e')),Src P z tx (.slice a0 xs.length cap) ys.length vs w:=by
      rintro ⟨e',hk'⟩
      rw [<- hlen]
      cases xs with
      | nil=>
        have hy0 : ys = []:=List.eq_nil_of_length_eq_zero (by simpa using hlen)
        subst hy0
        have hv0 : vs = []:=List.eq_nil_of_length_eq_zero (by simpa using hvl)
        subst hv0
        cases a0 with
        | none=>exact Src.ofNil w hk' cap
        | some a=>exact Src.ofSlice w hk' a 0 cap [] (by simp) (by simp) (by simp)
      | cons x xs=>
        obtain ⟨b,o,rfl,hc⟩:=hmem (by simp)
        refine Src.ofSlice w hk' _ _ cap vs hvl (fun j u hu=>?_) hl.one
        rw [jaU,hc j (by rcases Nat.lt_or_ge j vs.length with h | h;exact h;simp [List.getElem?_eq_none h] at hu)]
        exact hu
    rcases hk with hk | hk
    · exact fin hk
    · -- a slice value under a string's type: the two readings are the same
      have base:=fun (e : TypeId)=>e
      refine ⟨.inr hk,fun _=>by rw [hlen];rfl,?_,?_,hvl,hl.one⟩
      · cases xs with
        | nil=>
          have hy0 : ys = []:=List.eq_nil_of_length_eq_zero (by simpa using hlen)
          subst hy0
          have hv0 : vs = []:=List.eq_nil_of_length_eq_zero (by simpa using hvl)
          subst hv0
          cases a0 <;> simp [Builtin.firstCells,loadCells,loadCellsFrom]
        | cons x xs=>
          obtain ⟨b,o,rfl,hc⟩:=hmem (by simp)
          rw [hlen] at hvl ⊢
          exact run_firstCells_some w z _ _ _ _ vs hvl (fun j u hu=>by
            rw [jaU,hc j (by rcases Nat.lt_or_ge j vs.length with h | h;exact h;simp [List.getElem?_eq_none h] at hu)];exact hu)
      · cases xs with
        | nil=>
          have hy0 : ys = []:=List.eq_nil_of_length_eq_zero (by simpa using hlen)
          subst hy0
          have hv0 : vs = []:=List.eq_nil_of_length_eq_zero (by simpa using hvl)
          subst hv0
          cases a0 <;> simp [Builtin.firstCells,loadCells,loadCellsFrom]
        | cons x xs=>
          obtain ⟨b,o,rfl,hc⟩:=hmem (by simp)
          rw [hlen] at hvl ⊢
          exact run_firstCells_some w.drew z _ _ _ _ vs hvl (fun j u hu=>by
            rw [jaU,World.cell?_drew,hc j (by rcases Nat.lt_or_ge j vs.length with h | h;exact h;simp [List.getElem?_eq_none h] at hu)];exact hu)
end
end Vm
end
section
namespace Vm
open Go Go.RowKit
variable [Base]
section
variable {P : Program} {ρ : Rho} {im : Im} {H : Heap} {w w' : World} {n : Nat}
omit [Base] in
theorem jiX {e : TypeId} {z : D} {m : Nat} (hz : zeroT P e = some z) (hm : z.cells.length = m) : ∃ i v,P.info? e = some i /\ i.zero = some v /\ v.cells.size = m /\ ofV v = some z:=by
  unfold zeroT at hz
  cases hi : P.info? e with
  | none=>simp [hi] at hz
  | some i=>
    simp only [hi,Option.bind_some] at hz
    cases hv : i.zero with
    | none=>simp [hv] at hz
    | some v=>
      simp only [hv,Option.bind_some] at hz
      cases ho : ofV v with
      | none=>simp [ho] at hz
      | some d=>
        simp only [ho,Option.bind_some] at hz
        have hnt : (∀ l,d ≠ .tup l) /\ d = z:=by cases d <;> simp at hz <;> subst hz <;> exact ⟨(fun l e=>by cases e),rfl⟩
        obtain ⟨hnt,rfl⟩:=hnt
        have:=(jbD (ρ:=fun _=>default) (n:=0) (im:=fun _ _=>none) ho).cells hnt
        exact ⟨i,v,rfl,hv,by have:=this.length;simp at this;omega,ho⟩
omit [Base] in
theorem jfO {e : TypeId} {b : Nat} (h : bytesT P e = some b) : ∃ i,P.info? e = some i /\ i.bytes = b:=by
  unfold bytesT at h
  cases hi : P.info? e with
  | none=>simp [hi] at h
  | some i=>simp [hi] at h;exact ⟨i,rfl,h⟩
omit [Base] in
theorem jhS (zero : Array Value) (k : Nat) : (Builtin.zeroCells zero k).size = k * zero.size:=by simp [Builtin.zeroCells]
theorem Rel.allocRow (hR : Rel ρ im H w) {sz cap : Nat} {xs : List D} {vs : List Value} {rest : Array Value} {t : TypeId} (hl : RepL ρ H.length im vs (flatC xs)) (hs : ∀ x,x ∈ xs -> x.cells.length = sz)
    (hc : xs.length <= cap) (hrest : rest.size = (cap - xs.length) * sz) :
    ∃ ρ',Mv ρ im H w ρ' im (H ++ [.arr xs]) (w.alloc (.cells (vs.toArray ++ rest) t)) /\ ρ' H.length = ⟨w.heap.size,sz,cap,true⟩:=by
  have hvl : vs.length = xs.length * sz:=by rw [hl.length,jaE hs]
  obtain ⟨h1,h2⟩:=hR.alloc (sz:=sz) (cap:=cap) (xs:=xs) (c:=vs.toArray ++ rest) (t:=t) (fz:=(0,0)) (by
      simp [hvl,hrest];rw [<- Nat.add_mul];congr 1;omega) hs hc (by
      rw [show (vs.toArray ++ rest).toList = vs ++ rest.toList by simp,List.take_append_of_le_length (by omega),List.take_of_length_le (by omega)];exact hl) (.inr (Nat.le_refl _))
  exact ⟨_,⟨h1,ImLe.refl _,h2,fun _ _ _ h=>.inl h⟩,jaD⟩
omit [Base] in
theorem jd0 {r m : Nat} {b sz cap : Nat} (hr : r < n) (he : ρ r = ⟨b,sz,cap,true⟩) (hm : m <= cap) : Rep ρ n im (.slice (some ⟨b,0,none⟩) m cap) (.vec r 0 m):=by
  have:=Rep.vec (ρ:=ρ) (n:=n) (im:=im) r 0 m ⟨hr,by rw [he]⟩ (by rw [he];simpa using hm)
  simpa [he] using this
omit [Base] in
theorem jlF {r : Nat} {xs : List D} (h : hget H r = .arr xs) : r < H.length:=jdX h (by simp)
set_option maxHeartbeats 1000000 in
theorem jor {t u ty : TypeId} {s x d : D} {vs vx : Value} {H' : Heap} (hR : Rel ρ im H w) (hu : (∃ e',P.underlying u = some (.slice e')) ∨ P.underlying u = some .string) (hs : Rep ρ H.length im vs s) (hx : Rep ρ H.length im vx x)
    (h : appendD P t H s x = some (d,H')) :
    ∃ v ρ' im' w',(Builtin.append_ #[t,u] ty #[vs,vx]).run P w = .ok v w' /\ Mv ρ im H w ρ' im' H' w' /\ Rep ρ' H'.length im' v d:=by
  unfold appendD at h
  cases he : elemT P t with
  | none=>simp [he] at h
  | some e=>
  cases hz : sizeT P e with
  | none=>simp [he,hz] at h
  | some z=>
  cases hb : bytesT P e with
  | none=>simp [he,hz,hb] at h
  | some by'=>
  cases hzr : zeroT P e with
  | none=>simp [he,hz,hb,hzr] at h
  | some zd=>
  cases hy : addedD H x with
  | none=>simp [he,hz,hb,hzr,hy] at h
  | some p=>
  obtain ⟨ys,H1⟩:=p
  simp only [he,hz,hb,hzr,hy,Option.bind_some] at h
  split at h
  · cases h
  · rename_i hzl
    simp only [ne_eq,not_or,Decidable.not_not] at hzl
    obtain ⟨hzl,hbp⟩:=hzl
    have ht:=jes he
    obtain ⟨i,zv,hi,hiz,hzs,_⟩:=jiX hzr hzl
    have hisz : i.size = z:=by obtain ⟨i',h1,h2,_⟩:=ja8 hz;rw [hi] at h1;cases h1;exact h2
    have hib : i.bytes = by':=by obtain ⟨i',h1,h2⟩:=jfO hb;rw [hi] at h1;cases h1;exact h2
    split at h
    · rename_i hem
      have hys : ys = []:=by simpa using hem
      subst hys
      obtain ⟨im1,us,m1,hl,hsz,hsrc⟩:=jit (z:=z) hR hu hx hy (by rfl)
      have : us = []:=by cases hl;rfl
      subst this
      have hsl : ∃ a n c,vs = .slice a n c /\ n <= c /\ d = s /\ H' = H1:=by
        cases s <;> simp at h
        · obtain ⟨rfl,rfl⟩:=h
          obtain ⟨a0,cap,rfl,_,hc⟩:=hs.sl_inv
          exact ⟨_,_,_,rfl,hc,rfl,rfl⟩
        · obtain ⟨rfl,rfl⟩:=h
          cases hs with
          | vec r o m hr hm=>exact ⟨_,_,_,rfl,by omega,rfl,rfl⟩
      obtain ⟨a,n,c,rfl,hle,rfl,rfl⟩:=hsl
      rw [<- hisz] at hsrc
      exact ⟨_,ρ,im1,w,run_append_nothing w t u ty e i ht hi a n c hle vx hsrc,m1,m1.rep hs⟩
    · rename_i hne
      split at h
      · cases h
      · rename_i hhy
        simp only [Bool.not_eq_false] at hhy
        obtain ⟨im1,us,m1,hl,hsz,hsrc⟩:=jit (z:=z) hR hu hx hy hhy
        have hyl : 0 < ys.length:=by
          cases ys with
          | nil=>simp at hne
          | cons y ys=>simp
        have hbpos : 0 < by':=Nat.pos_of_ne_zero hbp
        -- what grows into a new row
        have grow : ∀ (xs : List D) (a0 : Option Addr) (cap : Nat) (ρ1 : Rho) (H2 : Heap),Mv ρ im H w ρ1 im1 H2 w -> H2.length = H1.length -> (∀ r,r < H1.length -> ρ1 r = ρ r) -> vs = .slice a0 xs.length cap -> cap < xs.length + ys.length ->
            (∃ os,RepL ρ1 H2.length im1 os (flatC xs) /\ (∀ x,x ∈ xs -> x.cells.length = z) /\ (xs ≠ [] -> ∃ b o,a0 = some ⟨b,o,none⟩ /\ ∀ k,k < os.length -> w.cell? ⟨b,o + k,none⟩ = os[k]?)) ->
            (xs.length + ys.length) * by' <= mostBytes -> d = .vec H1.length 0 (xs.length + ys.length) -> H' = H2 ++ [.arr (xs ++ ys)] ->
            ∃ v ρ' im' w',(Builtin.append_ #[t,u] ty #[vs,vx]).run P w = .ok v w' /\ Mv ρ im H w ρ' im' H' w' /\ Rep ρ' H'.length im' v d:=by
          intro xs a0 cap ρ1 H2 m2 hlen2 hext hvs hcap ⟨os,hos,hosz,homem⟩ hmost hd hH
          subst hvs;subst hd;subst hH
          have hol : os.length = xs.length * z:=by rw [hos.length,jaE hosz]
          have hneed : xs.length + ys.length <= mostBytes:=Nat.le_trans (Nat.le_mul_of_pos_right _ hbpos) hmost
          unfold mostBytes at hneed hmost
          have hold : (Builtin.firstCells i.size xs.length (.slice a0 xs.length cap)).run P w.drew = .ok os.toArray w.drew:=by
            rw [hisz]
            cases xs with
            | nil=>
              have : os = []:=List.eq_nil_of_length_eq_zero (by simpa using hol)
              subst this
              cases a0 <;> simp [Builtin.firstCells,loadCells,loadCellsFrom]
            | cons x xs=>
              obtain ⟨b,o,rfl,hc⟩:=homem (by simp)
              exact run_firstCells_some w.drew z _ _ _ _ os hol (fun j q hq=>by
                rw [jaU,World.cell?_drew,hc j (by rcases Nat.lt_or_ge j os.length with h | h;exact h;simp [List.getElem?_eq_none h] at hq)];exact hq)
          rw [<- hisz] at hsrc
          have hrun:=run_append_grow_src (P:=P) w t u ty e i zv ht hi hiz a0 xs.length cap os hold vx ys.length us hsrc hcap (by omega) (growslice_fits hcap (by rw [hib];omega))
          have hge:=grownCap_ge w (xs.length + ys.length) cap e
          have hRd : Rel ρ1 im1 H2 w.drew:=m2.rel.drew
          have hl2 : RepL ρ1 H2.length im1 us (flatC ys):=by
            rw [hlen2]
            refine hl.mono (fun r hr=>hext r hr.lt) (Nat.le_refl _) (ImLe.refl _)
          obtain ⟨ρ3,m3,he3⟩:=hRd.allocRow (sz:=z) (cap:=grownCap w (xs.length + ys.length) cap e) (xs:=xs ++ ys) (vs:=os ++ us) (rest:=Builtin.zeroCells zv.cells (grownCap w (xs.length + ys.length) cap e - (xs.length + ys.length))) (t:=e)
            (by rw [jeK];exact hos.append hl2)
            (fun x hx=>by rcases List.mem_append.1 hx with h | h;exact hosz x h;exact hsz x h) (by simpa using hge) (by rw [jhS,hzs];simp)
          refine ⟨_,ρ3,im1,_,hrun,(m2.trans ⟨hRd,ImLe.refl _,Tr.drew,fun _ _ _ h=>.inl h⟩).trans m3,?_⟩
          rw [<- hlen2]
          exact jd0 (by simp) (by simpa using he3) hge
        split at h
        · rename_i xs
          split at h
          · rename_i hc
            simp at h
            obtain ⟨rfl,rfl⟩:=h
            obtain ⟨a0,cap,rfl,hfull,_⟩:=hs.sl_inv
            have hcapx:=hfull rfl
            obtain ⟨a1,c1,sz1,os,e1,hos,hosz,_,hom⟩:=jc9 m1.rel (m1.rep hs) (xs:=xs) rfl
            cases e1
            refine grow xs a0 cap ρ H1 m1 rfl (fun _ _=>rfl) rfl (by omega) ⟨os,hos,?_,hom⟩ hc.2 rfl rfl
            rcases jbb hc.1 hosz with h0 | h0
            · rw [h0];simp
            · intro x hx;rw [hosz x hx,h0]
          · cases h
        · rename_i r m
          cases hg : hget H1 r with
          | dead=>simp [hg] at h
          | loop l=>simp [hg] at h
          | fro xs=>simp [hg] at h
          | map es=>simp [hg] at h
          | arr xs=>
            simp only [hg] at h
            split at h
            · rename_i hc
              simp at h
              obtain ⟨rfl,rfl⟩:=h
              obtain ⟨hhx,hxe,hm,hmost⟩:=hc
              have hr1:=jlF hg
              have hlive : live (hget H1 r):=by rw [hg];trivial
              have hs1:=m1.rep hs
              cases hs with
              | vec _ _ _ hr0 hmc=>
              obtain ⟨a1,c1,sz1,os,e1,hos,hosz,_,hom⟩:=jc9 m1.rel hs1 (xs:=xs) (by simp [elems,hg,hm])
              cases e1
              have hob:=m1.rel.obj r hr1
              rw [hg] at hob
              obtain ⟨c,tt,fz,h1,h2,h3,h4,h5,h6⟩:=hob
              have hszz : ∀ x,x ∈ xs -> x.cells.length = z:=by
                rcases jbb hhx h3 with h0 | h0
                · rw [h0];simp
                · intro x hx;rw [h3 x hx,h0]
              by_cases hroom : xs.length + ys.length <= (ρ r).cap
              · have hsz2 : (ρ r).sz = z:=by
                  rcases jbb hhx h3 with h0 | h0
                  · rw [h0] at hxe;simp at hxe
                  · exact h0
                have hul : us.length = ys.length * z:=by rw [hl.length,jaE hsz]
                have hcs : c.size = (ρ r).cap * z:=by rw [h2,hsz2]
                have hfit : (xs.length + ys.length) * z <= (ρ r).cap * z:=Nat.mul_le_mul_right _ hroom
                rw [Nat.add_mul] at hfit
                have hcell : ∀ j,j < us.length -> (w.cell? ⟨(ρ r).b,0 * (ρ r).sz + xs.length * i.size + j,none⟩).isSome = true:=fun j hj=>by
                  simp [World.cell?,h1];rw [hisz];omega
                have hfr : ∀ j,j < us.length -> w.frozen? ⟨(ρ r).b,0 * (ρ r).sz + xs.length * i.size + j,none⟩ = false:=fun j hj=>by
                  simp only [World.frozen?,h1]
                  simp only [Bool.and_eq_false_iff,decide_eq_false_iff_not]
                  rw [hisz]
                  omega
                have hrun:=run_append_room_src w t u ty e i ht hi (ρ r).b (0 * (ρ r).sz) xs.length ((ρ r).cap - 0) vx ys.length us (by rw [hisz];exact hsrc) (by omega) hcell hfr
                have hoff : 0 * (ρ r).sz + xs.length * i.size = xs.length * z:=by rw [hisz];omega
                rw [hoff] at hrun
                obtain ⟨q1,q2,q3,q4⟩:=jcZ (ρ r).b us (xs.length * z) w
                obtain ⟨hR2,hT2⟩:=m1.rel.replace (w':=w.setCells (ρ r).b (xs.length * z) us) hr1 hlive (ob:=.arr (xs ++ ys)) (fun b hb=>jcf _ _ _ _ _ hb) q1 q2 q3 q4
                  ⟨_,tt,fz,jez _ _ _ _ _ _ _ h1,by rw [jbM,h2],fun x hx=>by
                      rw [hsz2];rcases List.mem_append.1 hx with h | h;exact hszz x h;exact hsz x h,by simpa using hroom,by
                      rw [jbS _ _ _ (by omega),jeK,hsz2]
                      have e2 : List.take ((xs ++ ys).length * z) (List.take (xs.length * z) c.toList ++ us ++ List.drop (xs.length * z + us.length) c.toList) = List.take (xs.length * z) c.toList ++ us:=by
                        rw [List.take_append_of_le_length (by simp [Nat.add_mul];omega),List.take_of_length_le (by simp [Nat.add_mul];omega)]
                      rw [e2]
                      rw [hsz2] at h5
                      exact (h5.append hl).mono (fun s hs=>jaC hs.lt) (by omega) (ImLe.refl _),by rw [jbM];exact h6⟩
                have m2 : Mv ρ im1 H1 w _ im1 (H1.set r .dead ++ [.arr (xs ++ ys)]) (w.setCells (ρ r).b (xs.length * z) us):=⟨hR2,ImLe.refl _,hT2,fun _ _ _ h=>.inl h⟩
                refine ⟨_,_,im1,_,hrun,m1.trans m2,?_⟩
                have:=jd0 (ρ:=newR ρ H1.length (ρ r)) (n:=(H1.set r Ob.dead ++ [Ob.arr (xs ++ ys)]).length) (im:=im1) (r:=H1.length) (m:=xs.length + ys.length) (b:=(ρ r).b) (sz:=(ρ r).sz) (cap:=(ρ r).cap) (by simp) (by rw [jaD];have h9:=hr0.on;cases hq : ρ r;simp [hq] at h9 ⊢;exact h9) (by omega)
                simpa using this
              · -- a new row;the old one is let go
                have hk : Rel ρ im1 (H1.set r .dead) w:=m1.rel.setOb hr1 hlive (fun _ _=>rfl) trivial
                have tk : Tr ρ H1 w ρ (H1.set r .dead) w:=Tr.setOb hr1 hlive (fun _ _=>rfl) rfl rfl rfl rfl
                have m2:=m1.trans (⟨hk,ImLe.refl _,tk,fun _ _ _ h=>.inl h⟩ : Mv ρ im1 H1 w ρ im1 (H1.set r .dead) w)
                refine grow xs _ _ ρ (H1.set r .dead) m2 (by simp) (fun _ _=>rfl) rfl (by omega) ⟨os,by simpa using hos,hszz,hom⟩ hmost rfl rfl
            · cases h
        · cases h
end
end Vm
end
section
namespace Vm
open Go Go.RowKit
variable [Base]
section
variable {P : Program} {ρ : Rho} {im : Im} {H : Heap} {w w' : World} {n N : Nat} {a : Act} {e : Env}
inductive RepP (ρ : Rho) (n : Nat) (im : Im) : List (Nat × Value) -> List (Nat × D) -> Prop
  | nil : RepP ρ n im [] []
  | cons (i : Nat) (v : Value) (d : D) (vs : List (Nat × Value)) (ds : List (Nat × D)) (h : Rep ρ n im v d) (hr : RepP ρ n im vs ds) : RepP ρ n im ((i,v) :: vs) ((i,d) :: ds)
omit [Base] in
theorem jc5 (he : EnvR ρ n im N a e) : ∀ {l : List (Nat × Operand)} {ds : List (Nat × D)},partsD e l = some ds -> RepP ρ n im (l.map fun (i,x)=>(i,a.eval x)) ds
  | [],ds,h=>by simp [partsD] at h;subst h;exact .nil
  | (i,o) :: r,ds,h=>by
    simp only [partsD] at h
    cases h0 : evalO e o with
    | none=>simp [h0] at h
    | some d=>
      cases h1 : partsD e r with
      | none=>simp [h0,h1] at h
      | some es=>simp [h0,h1] at h;subst h;exact .cons i _ _ _ _ (jai he h0) (jc5 he h1)
omit [Base] in
theorem jdE : ∀ {fs : List Field} {ps : List (Nat × Nat)},placesT P fs = some ps -> ∀ w,(fs.mapM fun (f : Field)=>(do pure (f.offset,<- Go.sizeOf f.type) : Sem (Nat × Nat))).run P w = .ok ps w
  | [],ps,h,w=>by simp [placesT] at h;subst h;simp
  | f :: r,ps,h,w=>by
    simp only [placesT] at h
    cases hi : P.info? f.type with
    | none=>simp [hi] at h
    | some i=>
      cases hr : placesT P r with
      | none=>simp [hi,hr] at h
      | some qs=>
        simp [hi,hr] at h;subst h
        have ih:=jdE hr w
        simp [List.mapM_cons,Go.sizeOf,typeInfo,hi] at ih ⊢
        simp [ih]
omit [Base] in
theorem jfn (vs : List Value) : ∀ (off : Nat) (cells : Array Value),off + vs.length <= cells.size ->
    (vs.zipIdx.foldl (fun cs (c,j)=>cs.setIfInBounds (off + j) c) cells) = setMany cells off vs:=by
  have gen : ∀ (vs : List Value) (k off : Nat) (cells : Array Value),((vs.zipIdx k).foldl (fun cs (c,j)=>cs.setIfInBounds (off + j) c) cells) = setMany cells (off + k) vs:=by
    intro vs
    induction vs with
    | nil=>intros;rfl
    | cons v r ih=>intro k off cells;simp only [List.zipIdx_cons,List.foldl_cons,setMany,ih];rw [Nat.add_assoc]
  intro off cells _
  have:=gen vs 0 off cells
  simpa using this
omit [Base] in
theorem jgx {place : Nat -> Option (Nat × Nat)} : ∀ {ps : List (Nat × Value)} {ds : List (Nat × D)} {cells : Array Value} {cs out : List D},RepP ρ n im ps ds -> RepL ρ n im cells.toList cs -> fillD place cs ds = some out ->
    ∃ cells',Instr.fill place cells ps = some cells' /\ RepL ρ n im cells'.toList out
  | _,_,cells,cs,out,.nil,hc,h=>by simp [fillD] at h;subst h;exact ⟨cells,rfl,hc⟩
  | _,_,cells,cs,out,.cons i v d vs ds hv hr,hc,h=>by
    simp only [fillD] at h
    cases hp : place i with
    | none=>simp [hp] at h
    | some q=>
      obtain ⟨off,sz⟩:=q
      simp only [hp,Option.bind_some] at h
      split at h
      · rename_i hcond
        obtain ⟨h1,h2,h3⟩:=hcond
        have hvc:=hv.cells (fun l e=>by subst e;simp [noTup] at h3)
        have hvl : v.cells.size = sz:=by have:=hvc.length;simp at this;omega
        have hcl : cells.size = cs.length:=by have:=hc.length;simpa using this
        have hnew : RepL ρ n im (setMany cells off v.cells.toList).toList (spliceL cs off d.cells):=by
          rw [jbS _ _ _ (by simp;omega)]
          unfold spliceL
          have:=hvc.length
          rw [<- this]
          exact ((hc.take off).append hvc).append (hc.drop _)
        obtain ⟨cells',g1,g2⟩:=jgx hr hnew h
        refine ⟨cells',?_,g2⟩
        unfold Instr.fill
        simp only [hp]
        rw [if_neg (by simp;omega)]
        have:=jfn v.cells.toList off cells (by simp;omega)
        have e2 : (v.cells.zipIdx.foldl (fun cs (c,j)=>cs.setIfInBounds (off + j) c) cells) = setMany cells off v.cells.toList:=by
          rw [<- this,<- Array.foldl_toList,Array.toList_zipIdx]
        rw [<- g1,<- e2]
      · cases h
omit [Base] in
theorem jpd {t : TypeId} {ps : List (Nat × Value)} {ds : List (Nat × D)} {d : D} (hp : RepP ρ n im ps ds) (h : buildD P t ds = some d) : ∃ v,(Instr.build t ⟨ps⟩).run P w = .ok v w /\ Rep ρ n im v d:=by
  unfold buildD at h
  cases hz : zeroT P t with
  | none=>simp [hz] at h
  | some z=>
    simp only [hz,Option.bind_some] at h
    obtain ⟨zv,hzr,hzo,hnt⟩:=jcd hz w
    have hzc:=(jbD (ρ:=ρ) (n:=n) (im:=im) hzo).cells hnt
    split at h
    · rename_i fs hu
      cases hpl : placesT P fs.toList with
      | none=>simp [hpl] at h
      | some pl=>
        simp only [hpl,Option.bind_some] at h
        cases hf : fillD (fun i=>pl[i]?) z.cells ds with
        | none=>simp [hf] at h
        | some out=>
          simp [hf] at h;subst h
          obtain ⟨cells',g1,g2⟩:=jgx hp hzc hf
          refine ⟨.agg cells',?_,by obtain ⟨l⟩:=cells';exact .agg l out g2⟩
          have hm:=jdE hpl w
          have hm' : (fs.mapM fun (f : Field)=>(do pure (f.offset,<- Go.sizeOf f.type) : Sem (Nat × Nat))).run P w = .ok pl.toArray w:=by
            rw [Array.mapM_eq_mapM_toList]
            simp only [Sem.run_map,hm,Result.andThen_ok]
          have g1' : Instr.fill (fun i=>pl.toArray[i]?) zv.cells ps = some cells':=by rw [<- g1];congr 1;funext i;simp
          simp only [Instr.build,Sem.run_bind,hzr,Result.andThen_ok,run_underlying hu,hm',g1',Sem.run_pure]
    · rename_i m el hu
      cases hs : sizeT P el with
      | none=>simp [hs] at h
      | some sz=>
        simp only [hs,Option.bind_some] at h
        cases hf : fillD (fun i=>some (i * sz,sz)) z.cells ds with
        | none=>simp [hf] at h
        | some out=>
          simp [hf] at h;subst h
          obtain ⟨cells',g1,g2⟩:=jgx hp hzc hf
          refine ⟨.agg cells',?_,by obtain ⟨l⟩:=cells';exact .agg l out g2⟩
          simp only [Instr.build,Sem.run_bind,hzr,Result.andThen_ok,run_underlying hu,jaP hs,g1,Sem.run_pure]
    · cases h
omit [Base] in
theorem jeP {zs : Array Value} (h : zs.size ≠ 0) (k : Nat) : ((Array.range (k * zs.size)).map (zs[· % zs.size]!)).toList = (List.replicate k zs.toList).flatten:=by
  induction k with
  | zero=>simp
  | succ k ih=>
    simp only [Array.toList_map,Array.toList_range] at ih ⊢
    rw [List.replicate_succ',List.flatten_append,<- ih,Nat.succ_mul,List.range_add,List.map_append]
    congr 1
    simp only [List.map_map,List.flatten_cons,List.flatten_nil,List.append_nil]
    apply List.ext_getElem?
    intro j
    by_cases hj : j < zs.size
    · have : (k * zs.size + j) % zs.size = j:=by rw [Nat.mul_comm,Nat.mul_add_mod];exact Nat.mod_eq_of_lt hj
      simp [hj,this]
    · simp [hj,List.getElem?_eq_none]
omit [Base] in
theorem jiP {z : D} {zs : Array Value} (hz : RepL ρ n im zs.toList z.cells) (k : Nat) : RepL ρ n im (List.replicate k zs.toList).flatten (flatC (List.replicate k z)):=by
  induction k with
  | zero=>exact .nil
  | succ k ih=>simp only [List.replicate_succ,List.flatten_cons,flatC,List.flatMap_cons];exact hz.append ih
omit [Base] in
theorem jiD {z : Nat} : ∀ {ps : List (Nat × Value)} {ds : List (Nat × D)} {cells : Array Value} {xs out : List D},RepP ρ n im ps ds -> RepL ρ n im cells.toList (flatC xs) -> (∀ x,x ∈ xs -> x.cells.length = z) -> fillE z xs ds = some out ->
    ∃ cells',Instr.fill (fun i=>some (i * z,z)) cells ps = some cells' /\ RepL ρ n im cells'.toList (flatC out) /\ (∀ x,x ∈ out -> x.cells.length = z) /\ out.length = xs.length /\ cells'.size = cells.size
  | _,_,cells,xs,out,.nil,hc,hs,h=>by simp [fillE] at h;subst h;exact ⟨cells,rfl,hc,hs,rfl,rfl⟩
  | _,_,cells,xs,out,.cons i v d vs ds hv hr,hc,hs,h=>by
    simp only [fillE] at h
    split at h
    · rename_i hcond
      obtain ⟨h1,h2,h3⟩:=hcond
      have hvc:=hv.cells (fun l e=>by subst e;simp [noTup] at h3)
      have hvl : v.cells.size = z:=by have:=hvc.length;simp at this;omega
      have hcl : cells.size = xs.length * z:=by have:=hc.length;rw [jaE hs] at this;simpa using this
      have hm : (i + 1) * z <= xs.length * z:=Nat.mul_le_mul_right _ h2
      rw [Nat.add_mul,Nat.one_mul] at hm
      have hnew : RepL ρ n im (setMany cells (i * z) v.cells.toList).toList (flatC (xs.set i d)):=by
        rw [jbS _ _ _ (by simp;omega),jin hs h2,Nat.add_mul,Nat.one_mul]
        have : v.cells.toList.length = z:=by simpa using hvl
        rw [this]
        exact ((hc.take _).append hvc).append (hc.drop _)
      have hs' : ∀ x,x ∈ xs.set i d -> x.cells.length = z:=fun x hx=>by
        rcases List.mem_or_eq_of_mem_set hx with hx | hx
        · exact hs x hx
        · subst hx;exact h1
      obtain ⟨cells',g1,g2,g3,g4,g5⟩:=jiD hr hnew hs' h
      refine ⟨cells',?_,g2,g3,by simpa using g4,by rw [g5,jbM]⟩
      unfold Instr.fill
      simp only
      rw [if_neg (by simp;omega)]
      have:=jfn v.cells.toList (i * z) cells (by simp;omega)
      have e2 : (v.cells.zipIdx.foldl (fun cs (c,j)=>cs.setIfInBounds (i * z + j) c) cells) = setMany cells (i * z) v.cells.toList:=by
        rw [<- this,<- Array.foldl_toList,Array.toList_zipIdx]
      rw [<- g1,<- e2]
    · cases h
theorem jb1 {t : TypeId} {len : Nat} {ps : List (Nat × Value)} {ds : List (Nat × D)} {d : D} {H' : Heap} (hR : Rel ρ im H w) (hp : RepP ρ H.length im ps ds) (h : buildSliceD P t len ds H = some (d,H')) :
    ∃ v ρ' w',(Instr.buildSlice t len ⟨ps⟩).run P w = .ok v w' /\ Mv ρ im H w ρ' im H' w' /\ Rep ρ' H'.length im v d:=by
  unfold buildSliceD at h
  cases he : elemT P t with
  | none=>simp [he] at h
  | some e=>
  cases hs : sizeT P e with
  | none=>simp [he,hs] at h
  | some z=>
  cases hz : zeroT P e with
  | none=>simp [he,hs,hz] at h
  | some zd=>
  simp only [he,hs,hz,Option.bind_some] at h
  split at h
  · rename_i hc
    obtain ⟨hzl,hmost⟩:=hc
    have hu:=jes he
    obtain ⟨zv,hzr,hzo,hnt⟩:=jcd hz w
    have hzc:=(jbD (ρ:=ρ) (n:=H.length) (im:=im) hzo).cells hnt
    have hzs : zv.cells.size = z:=by have:=hzc.length;simp at this;omega
    have hzp : z ≠ 0:=by obtain ⟨_,_,_,h⟩:=ja8 hs;exact h
    split at h
    · rename_i h0
      subst h0
      split at h
      · rename_i hem
        simp at h;obtain ⟨rfl,rfl⟩:=h
        have : ds = []:=by simpa using hem
        subst this
        cases hp
        refine ⟨.slice (some ⟨w.heap.size,0,none⟩) 0 0,ρ,w.alloc (.cells #[] e),?_,⟨hR.world fun b hb=>jax hb,ImLe.refl _,Tr.world (fun b hb=>jax hb) (by simp) rfl rfl rfl,fun _ _ _ h=>.inl h⟩,.sl0 _ _ _ (fun _=>rfl)⟩
        simp [Instr.buildSlice,run_underlying hu,jaP hs,Instr.fill,newRow,Array.range_zero']
      · cases h
    · rename_i h0
      cases hf : fillE z (List.replicate len zd) ds with
      | none=>simp [hf] at h
      | some out=>
        simp [hf] at h;obtain ⟨rfl,rfl⟩:=h
        have hz0:=jiP hzc len
        have hrow:=jeP (zs:=zv.cells) (by omega) len
        rw [<- hrow] at hz0
        obtain ⟨cells',g1,g2,g3,g4,g5⟩:=jiD hp hz0 (fun x hx=>by rw [List.eq_of_mem_replicate hx];exact hzl) hf
        have hol : out.length = len:=by rw [g4];simp
        have hcl : cells'.size = len * z:=by have:=g2.length;rw [jaE g3,hol] at this;simpa using this
        obtain ⟨ρ',m1,e1⟩:=hR.allocRow (sz:=z) (cap:=len) (xs:=out) (vs:=cells'.toList) (rest:=#[]) (t:=e) g2 g3 (by omega) (by simp [hol])
        refine ⟨.slice (some ⟨w.heap.size,0,none⟩) len len,ρ',_,?_,m1,?_⟩
        · have hn : ¬ (len * z > 2 ^ 24):=by omega
          have hn0 : ¬ (len * z = 0):=Nat.mul_ne_zero h0 hzp
          simp only [Instr.buildSlice,Sem.run_bind,run_underlying hu,Result.andThen_ok,jaP hs,Sem.run_ite,if_neg hn,Sem.run_pure,if_neg hn0,hzr]
          have : len * z = len * zv.cells.size:=by rw [hzs]
          rw [this]
          simp only [g1,newRow,Sem.run_bind,run_newObj_alloc,Result.andThen_ok,Sem.run_pure]
          simp
        · exact jd0 (by simp) e1 (Nat.le_refl _)
  · cases h
end
end Vm
end
section
namespace Vm
open Go Go.RowKit
variable [Base]
section
variable {P : Program} {ρ : Rho} {im : Im} {H : Heap} {w w' : World} {n N : Nat} {a : Act} {e : Env}
theorem jew {t : TypeId} {l c d : D} {vl vc : Value} {H' : Heap} (hR : Rel ρ im H w) (hl : Rep ρ H.length im vl l) (hc : Rep ρ H.length im vc c) (h : makeSliceD P t l c H = some (d,H')) :
    ∃ v ρ' w',(Instr.makeSlice t vl vc).run P w = .ok v w' /\ Mv ρ im H w ρ' im H' w' /\ Rep ρ' H'.length im v d:=by
  unfold makeSliceD at h
  split at h
  · rename_i kl x kc y
    cases hl;cases hc
    cases he : elemT P t with
    | none=>simp [he] at h
    | some e=>
    cases hs : sizeT P e with
    | none=>simp [he,hs] at h
    | some z=>
    cases hb : bytesT P e with
    | none=>simp [he,hs,hb] at h
    | some by'=>
    cases hz : zeroT P e with
    | none=>simp [he,hs,hb,hz] at h
    | some zd=>
    simp only [he,hs,hb,hz,Option.bind_some] at h
    split at h
    · rename_i hcond
      obtain ⟨h0,h1,h2,h3,hzl⟩:=hcond
      have hu:=jes he
      obtain ⟨i,zv,hi,hiz,hzs,hzo⟩:=jiX hz hzl
      have hisz : i.size = z:=by obtain ⟨i',h1,h2,_⟩:=ja8 hs;rw [hi] at h1;cases h1;exact h2
      have hib : i.bytes = by':=by obtain ⟨i',h1,h2⟩:=jfO hb;rw [hi] at h1;cases h1;exact h2
      have hnt : ∀ l,zd ≠ .tup l:=by obtain ⟨_,_,_,q⟩:=jcd hz w;exact q
      have hzc:=(jbD (ρ:=ρ) (n:=H.length) (im:=im) hzo).cells hnt
      have hzp : z ≠ 0:=by obtain ⟨_,_,_,h⟩:=ja8 hs;exact h
      unfold mostBytes at h2
      have hby : (i.bytes : Int) * y <= 281474976710656:=by
        rw [hib]
        have e1 : (by' : Int) * y = ((y.toNat * by' : Nat) : Int):=by
          rw [Int.natCast_mul,Int.toNat_of_nonneg (by omega),Int.mul_comm]
        rw [e1];omega
      have hrun:=run_make (P:=P) w t e i zv hu hi hiz kl kc x y h0 h1 hby (by omega)
      split at h
      · rename_i hy0
        simp at h;obtain ⟨rfl,rfl⟩:=h
        have : x = 0:=by omega
        subst hy0;subst this
        refine ⟨_,ρ,_,hrun,⟨hR.world fun b hb=>jax hb,ImLe.refl _,Tr.world (fun b hb=>jax hb) (by simp) rfl rfl rfl,fun _ _ _ h=>.inl h⟩,.sl0 _ _ _ (fun _=>rfl)⟩
      · rename_i hy0
        simp at h;obtain ⟨rfl,rfl⟩:=h
        have hlt : x.toNat <= y.toNat:=by omega
        have hz0:=jiP hzc x.toNat
        have hrow:=jeP (zs:=zv.cells) (by omega) x.toNat
        have hrow2:=jeP (zs:=zv.cells) (by omega) y.toNat
        have htake : (madeCells zv.cells (y.toNat * i.size)).toList.take ((List.replicate x.toNat zd).length * z) = (List.replicate x.toNat zv.cells.toList).flatten:=by
          have e1 : (madeCells zv.cells (y.toNat * i.size)).toList = (List.replicate y.toNat zv.cells.toList).flatten:=by
            rw [<- hrow2,hisz,<- hzs];rfl
          rw [e1,show y.toNat = x.toNat + (y.toNat - x.toNat) by omega,<- List.replicate_append_replicate,List.flatten_append,List.length_replicate]
          have hfl : (List.replicate x.toNat zv.cells.toList).flatten.length = x.toNat * z:=by
            rw [List.length_flatten];simp [hzs]
          rw [List.take_append_of_le_length (by omega),List.take_of_length_le (by omega)]
        obtain ⟨r1,r2⟩:=hR.alloc (sz:=z) (cap:=y.toNat) (xs:=List.replicate x.toNat zd) (c:=madeCells zv.cells (y.toNat * i.size)) (t:=e) (fz:=(0,0)) (by rw [size_madeCells,hisz])
          (fun q hq=>by rw [List.eq_of_mem_replicate hq];exact hzl) (by simpa using hlt) (by rw [htake];exact hz0) (.inr (Nat.le_refl _))
        exact ⟨_,_,_,hrun,⟨r1,ImLe.refl _,r2,fun _ _ _ h=>.inl h⟩,jd0 (by simp) jaD hlt⟩
    · cases h
  · cases h
theorem jvY {t ty : TypeId} {x : D} {vx : Value} {m : Nat} (hR : Rel ρ im H w) (hx : Rep ρ H.length im vx x) (h : lenD P t H x = some m) : (Builtin.len_ #[t] ty #[vx]).run P w = .ok (.int .i64 m) w:=by
  unfold lenD at h
  split at h
  · rename_i s hu
    simp at h;subst h
    cases hx with
    | str bs=>
      have : bs.data.toList.length = bs.size:=by rw [Array.length_toList];rfl
      simp [Builtin.len_,run_underlying hu,goInt]
  · rename_i k el hu
    simp at h;subst h
    simp [Builtin.len_,run_underlying hu,goInt]
  · rename_i el f xs hu
    simp at h;subst h
    obtain ⟨a0,cap,rfl,_,_⟩:=hx.sl_inv
    simp [Builtin.len_,run_underlying hu,goInt]
  · rename_i el r o k hu
    simp at h;subst h
    cases hx
    simp [Builtin.len_,run_underlying hu,goInt]
  · rename_i k v hu
    simp at h;subst h
    cases hx
    simp [Builtin.len_,run_underlying hu,goInt]
  · rename_i k v r hu
    cases hg : hget H r with
    | arr xs=>simp [hg] at h
    | fro xs=>simp [hg] at h
    | dead=>simp [hg] at h
    | loop l=>simp [hg] at h
    | map es=>
      simp [hg] at h;subst h
      cases hx with
      | map _ hr=>
        have hob:=hR.obj r hr.lt
        rw [hg] at hob
        obtain ⟨ms,cl,h1,h2⟩:=hob
        have hl : ms.size = es.length:=by
          have : ∀ {ms : List MapEntry} {es : List (D × D)},RepM ρ H.length im ms es -> ms.length = es.length:=by
            intro ms es h
            induction h with
            | nil=>rfl
            | cons _ _ _ _ _ _ _ _ ih=>simp [ih]
          simpa using this h2
        simp [Builtin.len_,run_underlying hu,goInt,getObj,Sem.run,h1,hl]
  · cases h
omit [Base] in
theorem jeH {f : D -> D -> Option D} {g : Value -> Value -> Sem Value} (hfg : ∀ (x y d : D) (vx vy : Value),f x y = some d -> Rep ρ n im vx x -> Rep ρ n im vy y -> ∃ v,(g vx vy).run P w = .ok v w /\ Rep ρ n im v d) :
    ∀ {l : List D} {vs : List Value} {x d : D} {v0 : Value},Rep ρ n im v0 x -> RepA ρ n im vs l -> l.foldlM f x = some d -> ∃ v,(vs.foldlM g v0).run P w = .ok v w /\ Rep ρ n im v d
  | [],vs,x,d,v0,h0,hl,h=>by cases hl;simp at h;subst h;exact ⟨v0,by simp,h0⟩
  | y :: l,vs,x,d,v0,h0,hl,h=>by
    cases hl with
    | cons v _ vs _ hv hr=>
      simp only [List.foldlM_cons] at h
      cases hf : f x y with
      | none=>simp [hf] at h
      | some z=>
        simp [hf] at h
        obtain ⟨u,h1,h2⟩:=hfg x y z v0 v hf h0 hv
        obtain ⟨v',h3,h4⟩:=jeH hfg h2 hr h
        exact ⟨v',by simp [List.foldlM_cons,h1,h3],h4⟩
omit [Base] in
theorem juT {ts : Array TypeId} {ty : TypeId} {l : List D} {vs : List Value} {d : D} (hl : RepA ρ n im vs l) (h : fold1 minD l = some d) : ∃ v,(Builtin.min_ ts ty ⟨vs⟩).run P w = .ok v w /\ Rep ρ n im v d:=by
  cases hl with
  | nil=>simp [fold1] at h
  | cons v x vs l hv hr=>
    simp only [fold1] at h
    refine jeH (f:=minD) (g:=Builtin.min2) (fun x y d vx vy h hx hy=>?_) hv hr h
    unfold minD at h
    split at h
    · split at h
      · rename_i k a k' b hk
        simp at h;subst h;cases hx;cases hy
        exact ⟨_,by simp [Builtin.min2],.int _ _⟩
      · cases h
    · cases h
omit [Base] in
theorem jvi {ts : Array TypeId} {ty : TypeId} {l : List D} {vs : List Value} {d : D} (hl : RepA ρ n im vs l) (h : fold1 maxD l = some d) : ∃ v,(Builtin.max_ ts ty ⟨vs⟩).run P w = .ok v w /\ Rep ρ n im v d:=by
  cases hl with
  | nil=>simp [fold1] at h
  | cons v x vs l hv hr=>
    simp only [fold1] at h
    refine jeH (f:=maxD) (g:=Builtin.max2) (fun x y d vx vy h hx hy=>?_) hv hr h
    unfold maxD at h
    split at h
    · split at h
      · rename_i k a k' b hk
        simp at h;subst h;cases hx;cases hy
        exact ⟨_,by simp [Builtin.max2],.int _ _⟩
      · cases h
    · cases h
omit [Base] in
theorem jdL         {ρe : Operand → Value} {c : Call} {ty : TypeId} {f : Operand} (hc : c.callee = .value f) {g : FuncId} {cs : List Value} (hf : ρe f = .func (.func g) ⟨[]⟩ ⟨cs⟩) :
    (resolve ρe c ty).run P w = .ok { target:=.fn (.func g) ⟨cs⟩,args:=c.args.map ρe } w:=by
  unfold resolve
  rw [hc]
  simp [hf,Deferred.ofValue]
end
end Vm
end
