/- A plain interpreter of the model's code over data (no machine memory): values, objects, operations. -/
import GoSem.Step
import Derived.Laws.Sem
namespace Vm
open Go

inductive D where
  | bool (b : Bool)
  | int (k : IntKind) (n : Int)
  | str (s : List UInt8)
  | nilp
  | ptr (r i j : Nat)
  | ept (x : D) (j : Nat)
  | sl (f : Bool) (xs : List D)
  | vec (r o n : Nat)
  | map (r : Nat)
  | nilm
  | fn (f : FuncId) (cs : List D)
  | niln
  | iface (t : TypeId) (d : D)
  | nili
  | agg (cs : List D)
  | tup (ds : List D)
  | yld (r : Nat)
  deriving Inhabited

def ud : D := .tup []
def D.cells : D → List D
  | .agg cs => cs
  | d => [d]

/-- what a range over a function keeps for its rounds -/
structure Lp where
  st : LoopState
  pend : Option Code
  tmps : Nat → D
  N : Nat
  ps : Array Tmp
  assign : Code
  body : Code
  deriving Inhabited
inductive Ob where
  | arr (xs : List D)
  | fro (xs : List D)
  | map (es : List (D × D))
  | loop (l : Lp)
  | dead
  deriving Inhabited

/-- a call that waits for the function's end; the mark of a range over a function -/
inductive Dfr where
  | mark
  | call (f : FuncId) (args : List D)
  deriving Inhabited
/-- the frame: what the slots hold; the calls that wait (none: within a round of a range over a function) -/
structure Env where
  f : Nat → D
  df : Option (List Dfr)
instance : CoeFun Env (fun _ => Nat → D) := ⟨Env.f⟩
abbrev Heap := List Ob
def put (e : Env) (i : Nat) (v : D) : Env := ⟨fun j => if j = i then v else e j, e.df⟩
def putO (e : Env) : Option Nat → D → Env
  | some i, v => put e i v
  | none, _ => e
def ofArgs (l : List D) : Env := ⟨fun i => l.getD i ud, some []⟩

mutual
def ofV : Value → Option D
  | .bool b => some (.bool b)
  | .int k n => some (.int k n)
  | .string s => some (.str s.data.toList)
  | .pointer none => some .nilp
  | .slice none 0 0 => some (.sl true [])
  | .map none => some .nilm
  | .nilFunc => some .niln
  | .nilIface => some .nili
  | .agg ⟨cs⟩ => if cs.all Value.oneCell' then (ofVs cs).map .agg else none
  | .func (.func f) ⟨[]⟩ ⟨[]⟩ => some (.fn f [])
  | .tuple ⟨[]⟩ => some (.tup [])
  | _ => none
def ofVs : List Value → Option (List D)
  | [] => some []
  | v :: r => (ofV v).bind fun d => (ofVs r).map (d :: ·)
end

def evalO (e : Env) : Operand → Option D
  | .tmp t => some (e t)
  | .const v => ofV v
  | .global _ => none
  | .func f => some (.fn f [])
def evalOs (e : Env) : List Operand → Option (List D)
  | [] => some []
  | o :: r => (evalO e o).bind fun d => (evalOs e r).map (d :: ·)
def evalOo (e : Env) : Option Operand → Option (Option D)
  | none => some none
  | some o => (evalO e o).map some

/-! ### types -/
def isAggT (P : Program) (t : TypeId) : Option Bool :=
  match P.underlying t with
  | some (.struct _) | some (.array _ _) => some true
  | some _ => some false
  | none => none
/-- a type of at least one cell -/
def sizeT (P : Program) (t : TypeId) : Option Nat := ((P.info? t).map (·.size)).bind fun n => if n = 0 then none else some n
def bytesT (P : Program) (t : TypeId) : Option Nat := (P.info? t).map (·.bytes)
def zeroT (P : Program) (t : TypeId) : Option D := (P.info? t).bind fun i => (i.zero.bind ofV).bind fun d => match d with
  | .tup _ => none
  | d => some d
def elemT (P : Program) (t : TypeId) : Option TypeId :=
  match P.underlying t with
  | some (.slice e) => some e
  | _ => none
def fieldT (P : Program) (t : TypeId) (f : Nat) : Option (Nat × TypeId) :=
  match P.underlying t with
  | some (.struct fs) => (fs[f]?).map fun x => (x.offset, x.type)
  | _ => none

/-- a part of some cells, of a type -/
def partD (P : Program) (t : TypeId) (cs : List D) (j : Nat) : Option D :=
  (sizeT P t).bind fun n => (isAggT P t).bind fun a =>
    if j + n ≤ cs.length then (if a then some (.agg ((cs.drop j).take n)) else if n = 1 then cs[j]? else none) else none
def noTup : D → Bool
  | .tup _ => false
  | _ => true
def aggQ : D → Bool
  | .agg _ => true
  | _ => false
/-- what lies in an element at a cell, of a type: the element itself, where it is whole -/
def partE (P : Program) (t : TypeId) (x : D) (j : Nat) : Option D :=
  (sizeT P t).bind fun n => (isAggT P t).bind fun a =>
    if j = 0 ∧ x.cells.length = n ∧ aggQ x = a then some x else partD P t x.cells j
def spliceL (cs : List D) (j : Nat) (vs : List D) : List D := cs.take j ++ vs ++ cs.drop (j + vs.length)
def setE (x : D) (j : Nat) (v : D) : Option D :=
  if noTup v = false then none
  else if j = 0 ∧ v.cells.length = x.cells.length ∧ aggQ v = aggQ x then some v
  else if j + v.cells.length ≤ x.cells.length ∧ aggQ x then some (.agg (spliceL x.cells j v.cells)) else none

/-! ### data without places -/
mutual
/-- plain data alone, every capacity forgotten -/
def strip : D → Option D
  | .bool b => some (.bool b)
  | .int k n => some (.int k n)
  | .str s => some (.str s)
  | .nilp => some .nilp
  | .sl _ xs => (stripL xs).map (.sl false)
  | .nilm => some .nilm
  | .niln => some .niln
  | .nili => some .nili
  | .agg cs => (stripL cs).map .agg
  | .tup cs => (stripL cs).map .tup
  | _ => none
def stripL : List D → Option (List D)
  | [] => some []
  | d :: r => (strip d).bind fun d => (stripL r).map (d :: ·)
end

def hget (H : Heap) (r : Nat) : Ob := H.getD r .dead
/-- the elements of a slice -/
def elems (H : Heap) : D → Option (List D)
  | .sl _ xs => some xs
  | .vec r o n => match hget H r with
    | .arr xs | .fro xs => if o + n ≤ xs.length then some ((xs.drop o).take n) else none
    | _ => none
  | _ => none

/-- one behind the other, the heap handed on -/
def purL (f : Heap → D → Option (D × Heap)) : Heap → List D → Option (List D × Heap)
  | H, [] => some ([], H)
  | H, d :: r => (f H d).bind fun (d, H) => (purL f H r).map fun (l, H) => (d :: l, H)
/-- plain data as it stands in memory now; what it led to is written no more -/
def pur : Nat → Heap → D → Option (D × Heap)
  | 0, _, _ => none
  | k + 1, H, d => match strip d with
    | some d => some (d, H)
    | none => match d with
      | .vec r o n => match hget H r with
        | .arr xs => if o + n ≤ xs.length then (purL (pur k) (H.set r (.fro xs)) ((xs.drop o).take n)).map fun (l, H) => (.sl false l, H) else none
        | .fro xs => if o + n ≤ xs.length then (purL (pur k) H ((xs.drop o).take n)).map fun (l, H) => (.sl false l, H) else none
        | _ => none
      | .agg cs => (purL (pur k) H cs).map fun (l, H) => (.agg l, H)
      | .tup cs => (purL (pur k) H cs).map fun (l, H) => (.tup l, H)
      | _ => none
def deepest : Nat := 6
def pures (H : Heap) (l : List D) : Option (List D × Heap) := purL (pur deepest) H l
/-- nothing in it leads to memory -/
def flat1 : D → Bool
  | .bool _ | .int _ _ | .str _ | .nilp | .nilm | .niln | .nili => true
  | .sl _ xs => xs.isEmpty
  | _ => false
def flat : D → Bool
  | .agg cs | .tup cs => cs.all flat1
  | d => flat1 d
end Vm
