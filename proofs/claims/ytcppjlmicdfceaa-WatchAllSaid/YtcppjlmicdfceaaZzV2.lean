/- The interpreter's operations, code and calls. -/
import Derived.Test.YtcppjlmicdfceaaZzV1
set_option linter.unusedVariables false
namespace Vm
open Go

inductive R where
  | ok (d : D) (H : Heap)
  | pan (d : D) (H : Heap)
abbrev CallF := FuncId → List D → Heap → Option R

def dstOk (N : Nat) : Option Nat → Bool
  | some d => d < N
  | none => true

/-! ### operators -/
def intBin (op : BinOp) (k : IntKind) (a b : Int) : Option D :=
  match op with
  | .add => some (.int k (k.wrap (a + b)))
  | .sub => some (.int k (k.wrap (a - b)))
  | .mul => some (.int k (k.wrap (a * b)))
  | .quo => if b = 0 then none else some (.int k (k.wrap (a.tdiv b)))
  | .rem => if b = 0 then none else some (.int k (a.tmod b))
  | .and => some (.int k (k.wrap (BitVec.ofInt k.bits a &&& BitVec.ofInt k.bits b).toNat))
  | .or => some (.int k (k.wrap (BitVec.ofInt k.bits a ||| BitVec.ofInt k.bits b).toNat))
  | .xor => some (.int k (k.wrap (BitVec.ofInt k.bits a ^^^ BitVec.ofInt k.bits b).toNat))
  | .andNot => some (.int k (k.wrap (BitVec.ofInt k.bits a &&& ~~~ BitVec.ofInt k.bits b).toNat))
  | .eql => some (.bool (a == b))
  | .neq => some (.bool (a != b))
  | .lss => some (.bool (decide (a < b)))
  | .leq => some (.bool (decide (a ≤ b)))
  | .gtr => some (.bool (decide (a > b)))
  | .geq => some (.bool (decide (a ≥ b)))
  | .shl | .shr => none
def shiftD (op : BinOp) (k : IntKind) (a b : Int) : Option D :=
  if b < 0 then none else
  match op with
  | .shl => some (.int k (k.wrap (a * 2 ^ (min b.toNat k.bits))))
  | .shr => some (.int k (a.fdiv (2 ^ (min b.toNat k.bits))))
  | _ => none
def bytesLess : List UInt8 → List UInt8 → Bool := Go.Op.bytesLess
def strBin (op : BinOp) (a b : List UInt8) : Option D :=
  match op with
  | .add => if a.length + b.length < 2 ^ 62 then some (.str (a ++ b)) else none
  | .eql => some (.bool (a == b))
  | .neq => some (.bool (!(a == b)))
  | .lss => some (.bool (bytesLess a b))
  | .leq => some (.bool (bytesLess a b || a == b))
  | .gtr => some (.bool (!(bytesLess a b || a == b)))
  | .geq => some (.bool (!bytesLess a b))
  | _ => none
/-- scalars compared -/
def eqS : D → D → Option Bool
  | .int k a, .int k' b => if k = k' then some (a == b) else none
  | .bool a, .bool b => some (a == b)
  | .str a, .str b => some (a == b)
  | _, _ => none
def eqSs : List D → List D → Option Bool
  | [], [] => some true
  | a :: r, b :: s => (eqS a b).bind fun x => (eqSs r s).map (x && ·)
  | _, _ => none
def intQ : D → Bool
  | .int _ _ => true
  | _ => false
def eqD (P : Program) (t : TypeId) : D → D → Option Bool
  | .int k a, .int k' b => match P.underlying t with | some (.int _) => eqS (.int k a) (.int k' b) | _ => none
  | .bool a, .bool b => match P.underlying t with | some .bool => some (a == b) | _ => none
  | .str a, .str b => match P.underlying t with | some .string => some (a == b) | _ => none
  | .nilp, .nilp => match P.underlying t with | some (.pointer _) => some true | _ => none
  | .ptr _ _ _, .nilp | .nilp, .ptr _ _ _ | .ept _ _, .nilp | .nilp, .ept _ _ => match P.underlying t with | some (.pointer _) => some false | _ => none
  | .nili, .nili => match P.underlying t with | some (.interface ms) => if ms.isEmpty then some true else none | _ => none
  | .nili, .iface _ _ | .iface _ _, .nili => match P.underlying t with | some (.interface _) => some false | _ => none
  | .niln, .niln => match P.underlying t with | some (.func _ _ _) => some true | _ => none
  | .fn _ _, .niln | .niln, .fn _ _ => match P.underlying t with | some (.func _ _ _) => some false | _ => none
  | .agg xs, .agg ys => match P.underlying t with
    | some (.array n e) => match P.underlying e, sizeT P e with
      | some (.int _), some 1 => if xs.length = n ∧ ys.length = n ∧ xs.all intQ ∧ ys.all intQ then eqSs xs ys else none
      | _, _ => none
    | _ => none
  | _, _ => none
def binD (P : Program) (op : BinOp) (t : TypeId) (x y : D) : Option D :=
  match x, y with
  | .int k a, .int k' b => match op with
    | .shl => shiftD .shl k a b
    | .shr => shiftD .shr k a b
    | op => if k = k' then intBin op k a b else none
  | .str a, .str b => strBin op a b
  | x, y => match op with
    | .eql => (eqD P t x y).map .bool
    | .neq => (eqD P t x y).map fun b => .bool (!b)
    | _ => none
def unD (op : UnOp) : D → Option D
  | .int k n => match op with
    | .neg => some (.int k (k.wrap (0 - n)))
    | _ => none
  | .bool b => match op with
    | .not => some (.bool (!b))
    | _ => none
  | _ => none
def bytesOf (s : List UInt8) : List D := s.map fun b => .int .u8 b.toNat
def bytesBack : List D → Option (List UInt8)
  | [] => some []
  | .int .u8 n :: r => (bytesBack r).map (UInt8.ofNat n.toNat :: ·)
  | _ => none
def mostBytes : Nat := 2 ^ 47

/-! ### memory -/
def newOb (H : Heap) (xs : List D) : D × Heap := (.ptr H.length 0 0, H ++ [.arr xs])
def loadD (P : Program) (t : TypeId) (H : Heap) : D → Option D
  | .ptr r i j => match hget H r with
    | .arr xs | .fro xs => (xs[i]?).bind fun x => partE P t x j
    | _ => none
  | .ept x j => partE P t x j
  | _ => none
def storeD (P : Program) (t : TypeId) (H : Heap) : D → D → Option Heap
  | .ptr r i j, v => match hget H r with
    | .arr xs => (sizeT P t).bind fun n => if v.cells.length = n then (xs[i]?).bind fun x => (setE x j v).map fun x => H.set r (.arr (xs.set i x)) else none
    | _ => none
  | _, _ => none
def moveP (p : D) (o : Nat) : Option D :=
  match p with
  | .ptr r i j => some (.ptr r i (j + o))
  | .ept x j => some (.ept x (j + o))
  | _ => none
end Vm
