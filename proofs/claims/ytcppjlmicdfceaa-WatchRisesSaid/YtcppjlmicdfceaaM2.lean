/- The interpreter's code and calls. -/
import Derived.Test.YtcppjlmicdfceaaM1
set_option linter.unusedVariables false
namespace Vm
open Go

inductive Ex where
  | norm
  | exit (id : Nat)
  | ret
  | pan (d : D)
  deriving Inhabited
structure St where
  ex : Ex
  e : Env
  H : Heap

def wantD (ops : Array Oper) (e : Env) (o : Oper) : Option Bool :=
  match o.guard with
  | none => some true
  | some (j, want) => match (ops[j]?).bind (·.dst) with
    | some d => match e d with
      | .bool b => some (b == want)
      | _ => some false
    | none => some false
def deferC : Op → Option Call
  | .defer c => some c
  | _ => none
/-- one more call waits for the function's end -/
def pushD (P : Program) (e : Env) (c : Call) : Option Env :=
  e.df.bind fun l => match c.callee with
    | .value f => (evalOs e c.args.toList).bind fun args => (evalO e f).bind fun
      | .fn g cs => if bodied P g then some ⟨e.f, some (.call g (args ++ cs) :: l)⟩ else none
      | _ => none
    | _ => none
def runOps (P : Program) (A : Ann) (call : CallF) (N : Nat) (ops : Array Oper) : List Oper → Env → Heap → Option St
  | [], e, H => some ⟨.norm, e, H⟩
  | o :: rest, e, H => if dstOk N o.dst = false then none else
    match wantD ops e o with
    | some true => match deferC o.op with
      | some c => match pushD P e c with
        | some e => runOps P A call N ops rest (putO e o.dst ud) H
        | none => none
      | none => match stepOp P A call o.op e H with
        | some (.ok d H) => runOps P A call N ops rest (putO e o.dst d) H
        | some (.pan d H) => some ⟨.pan d, e, H⟩
        | none => none
    | some false => runOps P A call N ops rest (putO e o.dst ud) H
    | none => none
/-! ### regions whose order is open -/
def quietO (A : Ann) : Op → Bool
  | .move _ | .assign _ | .pick .. | .load .. | .nilCheck _ | .binOp .. | .unOp .. | .convert .. | .makeInterface .. | .makeFunc .. | .slice .. | .fieldAddr .. | .field .. | .indexAddr .. | .index .. | .extract .. | .build .. => true
  | .call c => match c.callee with
    | .builtin .len | .builtin .min | .builtin .max => true
    | .value (.func f) => (A.prim f).isNone && A.mode f == .pure
    | _ => false
  | _ => false
/-- an operation waits on another, be it through others -/
def chainOn (ops : Array Oper) : Nat → Nat → Nat → Bool
  | 0, _, _ => false
  | n + 1, j, k => ((ops[j]?).map fun o => (o.after.toList.any fun e => Region.binds .any e && e.on == k) || o.after.toList.any fun e => Region.binds .any e && chainOn ops n e.on k).getD false
def quietAt (A : Ann) (ops : Array Oper) (k : Nat) : Bool := ((ops[k]?).map fun o => quietO A o.op).getD false
def lexD (A : Ann) (ops : Array Oper) : Bool :=
  Region.lexB .any ops && (List.range ops.size).all fun j => (List.range j).all fun k => (quietAt A ops k && quietAt A ops j) || chainOn ops ops.size j k
/-- an operation there: a pure call has plain arguments -/
def stepX (P : Program) (A : Ann) (call : CallF) (o : Op) (e : Env) (H : Heap) : Option R :=
  match o with
  | .call c => match c.callee with
    | .value (.func f) => if (A.prim f).isNone && A.mode f == .pure then (evalOs e c.args.toList).bind fun args => if (stripL args).isSome then stepOp P A call (.call c) e H else none else stepOp P A call (.call c) e H
    | _ => stepOp P A call (.call c) e H
  | o => stepOp P A call o e H
def runOpsX (P : Program) (A : Ann) (call : CallF) (N : Nat) (ops : Array Oper) : List Oper → Env → Heap → Option St
  | [], e, H => some ⟨.norm, e, H⟩
  | o :: rest, e, H => if dstOk N o.dst = false then none else
    match wantD ops e o with
    | some true => match stepX P A call o.op e H with
      | some (.ok d H) => runOpsX P A call N ops rest (putO e o.dst d) H
      | _ => none
    | some false => runOpsX P A call N ops rest (putO e o.dst ud) H
    | none => none
def iterC (body : Env → Heap → Option St) : Nat → Env → Heap → Option St
  | 0, _, _ => none
  | k + 1, e, H => match body e H with
    | some ⟨.norm, e, H⟩ => iterC body k e H
    | r => r
def callQ : Dfr → Bool
  | .call _ _ => true
  | .mark => false
/-- a jump that was left by a round -/
def jumpD (c : Code) (e : Env) (H : Heap) : Option St :=
  match c with
  | .ret => some ⟨.ret, e, H⟩
  | .exit id => some ⟨.exit id, e, H⟩
  | _ => none
def runC (P : Program) (A : Ann) (call : CallF) (k : Nat) (N : Nat) : Code → Env → Heap → Option St
  | .skip, e, H => some ⟨.norm, e, H⟩
  | .label _, e, H => some ⟨.norm, e, H⟩
  | .region _ ops draw, e, H => if draw then (if lexD A ops then runOpsX P A call N ops ops.toList e H else none) else runOps P A call N ops ops.toList e H
  | .seq a b, e, H => match runC P A call k N a e H with
    | some ⟨.norm, e, H⟩ => runC P A call k N b e H
    | r => r
  | .cond c a b, e, H => match evalO e c with
    | some (.bool true) => runC P A call k N a e H
    | some (.bool false) => runC P A call k N b e H
    | _ => none
  | .block id b, e, H => match runC P A call k N b e H with
    | some ⟨.exit i, e, H⟩ => if i = id then some ⟨.norm, e, H⟩ else some ⟨.exit i, e, H⟩
    | r => r
  | .loop b, e, H => iterC (runC P A call k N b) k e H
  | .exit id, e, H => some ⟨.exit id, e, H⟩
  | .ret, e, H => some ⟨.ret, e, H⟩
  | .rangeFunc g ps assign body, e, H => e.df.bind fun l => (evalO e g).bind fun
    | .fn f cs => if bodied P f = false ∨ l.all callQ = false then none else
      match call f (.yld H.length :: cs) (H ++ [.loop ⟨.ready, none, e.f, N, ps, assign, body⟩]) with
      | some (.ok _ H2) => match hget H2 H.length with
        | .loop lp => if lp.st = .busy then none else
          match lp.pend with
          | none => some ⟨.norm, ⟨e.f, some (.mark :: l)⟩, H2.set H.length .dead⟩
          | some c => jumpD c ⟨e.f, some (.mark :: l)⟩ (H2.set H.length .dead)
        | _ => none
      | _ => none
    | _ => none
  | _, _, _ => none
def resD (P : Program) (e : Env) (H : Heap) : List ResultVar → Option (List D)
  | [] => some []
  | .tmp t :: r => (resD P e H r).map (e t :: ·)
  | .cell a t :: r => (loadD P t H (e a)).bind fun d => (resD P e H r).map (d :: ·)
def oneD : List D → D
  | [d] => d
  | l => .tup l
/-! ### rounds -/
def putsD (f : Nat → D) : List (Tmp × D) → Nat → D
  | [] => f
  | (t, d) :: r => putsD (fun j => if j = t then d else f j) r
/-- how a round leaves: what waits behind the loop -/
def leftD : Ex → Option (Option Code)
  | .norm => some none
  | .ret => some (some .ret)
  | .exit id => some (some (.exit id))
  | .pan _ => none
def lpOf : Ob → Option Lp
  | .loop l => some l
  | _ => none
def roundD (run : Nat → Code → Env → Heap → Option St) (r : Nat) (args : List D) (H : Heap) : Option R :=
  (lpOf (hget H r)).bind fun lp => if lp.st = .ready ∧ args.length = lp.ps.size ∧ (lp.ps.toList.all fun t => decide (t < lp.N)) = true then
    (run lp.N lp.assign ⟨putsD lp.tmps (lp.ps.toList.zip args), none⟩ H).bind fun
      | ⟨.norm, e, H1⟩ => (lpOf (hget H1 r)).bind fun l1 => if l1.st = .ready then
          (run lp.N lp.body e (H1.set r (.loop { l1 with st := .busy }))).bind fun s =>
            (leftD s.ex).bind fun j => (lpOf (hget s.H r)).bind fun l2 =>
              some (.ok (.bool j.isNone) (s.H.set r (.loop { l2 with st := if j.isNone then .ready else .done, pend := j })))
          else none
      | _ => none
  else none
/-! ### calls that waited -/
/-- how a function is left: it returns; a panic goes up; a panic that was recovered -/
inductive Md where
  | ret
  | pan (d : D)
  | rcv (d : D)
  deriving Inhabited
def Md.settle : Md → Md
  | .rcv _ => .ret
  | m => m
def recD : Md → D × Md
  | .pan d => (d, .rcv d)
  | m => (.nili, m)
def recoverC : Op → Bool
  | .call c => match c.callee with
    | .builtin .recover => true
    | _ => false
  | _ => false
def plainO : Op → Bool
  | .move _ | .assign _ | .pick .. | .alloc _ | .load .. | .store .. | .binOp .. | .unOp .. | .makeInterface .. | .fieldAddr .. | .field .. | .extract .. | .typeAssert .. | .build .. | .indexAddr .. => true
  | _ => false
def runOpsS (P : Program) (A : Ann) (N : Nat) (ops : Array Oper) : List Oper → Env → Heap → Md → Option (Env × Heap × Md)
  | [], e, H, m => some (e, H, m)
  | o :: rest, e, H, m => if dstOk N o.dst = false then none else
    match wantD ops e o with
    | some true => if recoverC o.op then runOpsS P A N ops rest (putO e o.dst (recD m).1) H (recD m).2 else
      if plainO o.op = false then none else
      match stepOp P A (fun _ _ _ => none) o.op e H with
        | some (.ok d H) => runOpsS P A N ops rest (putO e o.dst d) H m
        | _ => none
    | some false => runOpsS P A N ops rest (putO e o.dst ud) H m
    | none => none
def runS (P : Program) (A : Ann) (N : Nat) (run : Code → Env → Heap → Option St) : Code → Env → Heap → Md → Option (St × Md)
  | .seq a b, e, H, m => (runS P A N run a e H m).bind fun
    | (⟨.norm, e, H⟩, m) => runS P A N run b e H m
    | r => some r
  | .cond c a b, e, H, m => match evalO e c with
    | some (.bool true) => runS P A N run a e H m
    | some (.bool false) => runS P A N run b e H m
    | _ => none
  | .region id ops draw, e, H, m => if draw = false ∧ (ops.toList.any fun o => recoverC o.op) = true then
      (runOpsS P A N ops ops.toList e H m).map fun (e, H, m) => (⟨.norm, e, H⟩, m)
    else (run (.region id ops draw) e H).map fun s => (s, m)
  | c, e, H, m => (run c e H).map fun s => (s, m)
def noDf : Option (List Dfr) → Bool
  | some [] => true
  | _ => false
/-- a call that waited, when it comes up -/
def lastD (P : Program) (A : Ann) (run : Nat → Code → Env → Heap → Option St) (f : FuncId) (args : List D) (m : Md) (H : Heap) : Option (Md × Heap) :=
  match P.funcs[f]? with
  | some fn => match fn.body with
    | some c => if fn.name == "runtime.NumGoroutine" || args.length > fn.ntmps then none else
      (runS P A fn.ntmps (run fn.ntmps) c (ofArgs args) H m).bind fun
        | (⟨.norm, e, H⟩, m) | (⟨.ret, e, H⟩, m) => if noDf e.df = true ∧ (resD P e H fn.results.toList).isSome = true then some (m.settle, H) else none
        | _ => none
    | none => none
  | none => none
def leaveD (P : Program) (A : Ann) (run : Nat → Code → Env → Heap → Option St) (rs : List ResultVar) (e : Env) : List Dfr → Md → Heap → Option R
  | [], .ret, H => (resD P e H rs).map fun l => .ok (oneD l) H
  | [], .pan d, H => some (.pan d H)
  | [], .rcv _, _ => none
  | .mark :: l, m, H => leaveD P A run rs e l m H
  | .call f args :: l, m, H => (lastD P A run f args m H).bind fun (m, H) => leaveD P A run rs e l m H
def runF (P : Program) (A : Ann) : Nat → CallF
  | 0, _, _, _ => none
  | k + 1, f, args, H => match P.funcs[f]? with
    | some fn => match fn.body with
      | some c => if fn.name == "runtime.NumGoroutine" || args.length > fn.ntmps then none else
        match runC P A (runF P A k) k fn.ntmps c (ofArgs args) H with
        | some ⟨.norm, e, H⟩ | some ⟨.ret, e, H⟩ => e.df.bind fun l => leaveD P A (fun N => runC P A (runF P A k) k N) fn.results.toList e l .ret H
        | some ⟨.pan d, e, H⟩ => e.df.bind fun l => leaveD P A (fun N => runC P A (runF P A k) k N) fn.results.toList e l (.pan d) H
        | _ => none
      | none => none
    | none => roundD (fun N => runC P A (runF P A k) k N) (f - P.funcs.size) args H
end Vm
