/- Texts that stand behind this claim, one after the other. -/
import Derived.Test.YtdpcldllmiakkaaGreatDoorM4
import Derived.Attr
set_option maxHeartbeats 4000000
set_option linter.unusedVariables false
set_option linter.unusedSimpArgs false
section
namespace Vm
open Go
theorem inRange_ok {k : IntKind} {v : Int} {n : Nat} (h0 : 0 ≤ v) (h1 : v < (n : Int)) : inRange (.int k v) n = some v.toNat:=by simp [inRange,h0,h1]
theorem lt_trueN {a b : Nat} (h : a < b) : (a < b) = True:=by simp [h]
theorem le_trueN {a b : Nat} (h : a ≤ b) : (a ≤ b) = True:=by simp [h]
theorem lt_trueZ {a b : Int} (h : a < b) : (a < b) = True:=by simp [h]
theorem le_trueZ {a b : Int} (h : a ≤ b) : (a ≤ b) = True:=by simp [h]
theorem lt_falseN {a b : Nat} (h : b ≤ a) : (a < b) = False:=by simp;omega
theorem le_falseN {a b : Nat} (h : b < a) : (a ≤ b) = False:=by simp;omega
theorem lt_falseZ {a b : Int} (h : b ≤ a) : (a < b) = False:=by simp;omega
theorem le_falseZ {a b : Int} (h : b < a) : (a ≤ b) = False:=by simp;omega
theorem beq_falseZ {a b : Int} (h : ¬ a = b) : (a == b) = false:=by simp;omega
theorem bne_trueZ {a b : Int} (h : ¬ a = b) : (a != b) = true:=by simp;omega
theorem mostBytes_eq : mostBytes = 140737488355328:=rfl
theorem wi32 {n : Int} (h0 : -2147483648 ≤ n) (h1 : n < 2147483648) : IntKind.i32.wrap n = n:=by rw [IntKind.wrap_i32];omega
theorem wu8 {n : Int} (h0 : 0 ≤ n) (h1 : n < 256) : IntKind.u8.wrap n = n:=by rw [IntKind.wrap_u8];omega
theorem wu16 {n : Int} (h0 : 0 ≤ n) (h1 : n < 65536) : IntKind.u16.wrap n = n:=by simp [IntKind.wrap,IntKind.bits,IntKind.signed];omega
theorem wu32 {n : Int} (h0 : 0 ≤ n) (h1 : n < 4294967296) : IntKind.u32.wrap n = n:=by rw [IntKind.wrap_u32];omega
theorem wu64 {n : Int} (h0 : 0 ≤ n) (h1 : n < 18446744073709551616) : IntKind.u64.wrap n = n:=by simp [IntKind.wrap,IntKind.bits,IntKind.signed];omega
theorem getE? {α : Type} {l : List α} {i : Nat} (h : i < l.length) : l[i]? = some l[i]:=List.getElem?_eq_getElem h
theorem cells_bool (b : Bool) : D.cells (.bool b : D) = [(.bool b : D)]:=rfl
theorem noTup_bool (b : Bool) : noTup (.bool b : D) = true:=rfl
theorem aggQ_bool (b : Bool) : aggQ (.bool b : D) = false:=rfl
theorem cells_int (k : IntKind) (n : Int) : D.cells (.int k n : D) = [(.int k n : D)]:=rfl
theorem noTup_int (k : IntKind) (n : Int) : noTup (.int k n : D) = true:=rfl
theorem aggQ_int (k : IntKind) (n : Int) : aggQ (.int k n : D) = false:=rfl
theorem cells_str (s : List UInt8) : D.cells (.str s : D) = [(.str s : D)]:=rfl
theorem noTup_str (s : List UInt8) : noTup (.str s : D) = true:=rfl
theorem aggQ_str (s : List UInt8) : aggQ (.str s : D) = false:=rfl
theorem cells_nilp  : D.cells (.nilp : D) = [(.nilp : D)]:=rfl
theorem noTup_nilp  : noTup (.nilp : D) = true:=rfl
theorem aggQ_nilp  : aggQ (.nilp : D) = false:=rfl
theorem cells_ptr (r i j : Nat) : D.cells (.ptr r i j : D) = [(.ptr r i j : D)]:=rfl
theorem noTup_ptr (r i j : Nat) : noTup (.ptr r i j : D) = true:=rfl
theorem aggQ_ptr (r i j : Nat) : aggQ (.ptr r i j : D) = false:=rfl
theorem cells_ept (x : D) (j : Nat) : D.cells (.ept x j : D) = [(.ept x j : D)]:=rfl
theorem noTup_ept (x : D) (j : Nat) : noTup (.ept x j : D) = true:=rfl
theorem aggQ_ept (x : D) (j : Nat) : aggQ (.ept x j : D) = false:=rfl
theorem cells_sl (f : Bool) (xs : List D) : D.cells (.sl f xs : D) = [(.sl f xs : D)]:=rfl
theorem noTup_sl (f : Bool) (xs : List D) : noTup (.sl f xs : D) = true:=rfl
theorem aggQ_sl (f : Bool) (xs : List D) : aggQ (.sl f xs : D) = false:=rfl
theorem cells_vec (r o n : Nat) : D.cells (.vec r o n : D) = [(.vec r o n : D)]:=rfl
theorem noTup_vec (r o n : Nat) : noTup (.vec r o n : D) = true:=rfl
theorem aggQ_vec (r o n : Nat) : aggQ (.vec r o n : D) = false:=rfl
theorem cells_map (r : Nat) : D.cells (.map r : D) = [(.map r : D)]:=rfl
theorem noTup_map (r : Nat) : noTup (.map r : D) = true:=rfl
theorem aggQ_map (r : Nat) : aggQ (.map r : D) = false:=rfl
theorem cells_nilm  : D.cells (.nilm : D) = [(.nilm : D)]:=rfl
theorem noTup_nilm  : noTup (.nilm : D) = true:=rfl
theorem aggQ_nilm  : aggQ (.nilm : D) = false:=rfl
theorem cells_fn (f : FuncId) (cs : List D) : D.cells (.fn f cs : D) = [(.fn f cs : D)]:=rfl
theorem noTup_fn (f : FuncId) (cs : List D) : noTup (.fn f cs : D) = true:=rfl
theorem aggQ_fn (f : FuncId) (cs : List D) : aggQ (.fn f cs : D) = false:=rfl
theorem cells_niln  : D.cells (.niln : D) = [(.niln : D)]:=rfl
theorem noTup_niln  : noTup (.niln : D) = true:=rfl
theorem aggQ_niln  : aggQ (.niln : D) = false:=rfl
theorem cells_iface (t : TypeId) (d : D) : D.cells (.iface t d : D) = [(.iface t d : D)]:=rfl
theorem noTup_iface (t : TypeId) (d : D) : noTup (.iface t d : D) = true:=rfl
theorem aggQ_iface (t : TypeId) (d : D) : aggQ (.iface t d : D) = false:=rfl
theorem cells_nili  : D.cells (.nili : D) = [(.nili : D)]:=rfl
theorem noTup_nili  : noTup (.nili : D) = true:=rfl
theorem aggQ_nili  : aggQ (.nili : D) = false:=rfl
theorem cells_agg (l : List D) : D.cells (.agg l) = l:=rfl
theorem noTup_agg (l : List D) : noTup (.agg l) = true:=rfl
theorem aggQ_agg (l : List D) : aggQ (.agg l) = true:=rfl
attribute [go_sem] cells_bool noTup_bool aggQ_bool cells_int noTup_int aggQ_int cells_str noTup_str aggQ_str cells_nilp noTup_nilp aggQ_nilp cells_ptr noTup_ptr aggQ_ptr cells_ept noTup_ept aggQ_ept cells_sl noTup_sl aggQ_sl cells_vec noTup_vec aggQ_vec cells_map noTup_map aggQ_map cells_nilm noTup_nilm aggQ_nilm cells_fn noTup_fn aggQ_fn cells_niln noTup_niln aggQ_niln cells_iface noTup_iface aggQ_iface cells_nili noTup_nili aggQ_nili cells_agg noTup_agg aggQ_agg
section
variable {P : Program} {H : Heap}
def partO (P : Program) (t : TypeId) (x : Option D) (j : Nat) : Option D:=x.bind fun x=>partE P t x j
theorem partO_some {t : TypeId} {x : D} {j : Nat} : partO P t (some x) j = partE P t x j:=rfl
def loadO (P : Program) (t : TypeId) (o : Ob) (i j : Nat) : Option D:=
  match o with
  | .arr xs | .fro xs=>partO P t xs[i]? j
  | _=>none
theorem loadD_ptr {t : TypeId} {r i j : Nat} : loadD P t H (.ptr r i j) = loadO P t (hget H r) i j:=by
  unfold loadD loadO partO;rfl
theorem loadD_ept {t : TypeId} {x : D} {j : Nat} : loadD P t H (.ept x j) = partE P t x j:=rfl
theorem loadO_arr {t : TypeId} {xs : List D} {i j : Nat} : loadO P t (.arr xs) i j = partO P t xs[i]? j:=rfl
theorem loadO_fro {t : TypeId} {xs : List D} {i j : Nat} : loadO P t (.fro xs) i j = partO P t xs[i]? j:=rfl
def partG (n : Nat) (a : Bool) (cs : List D) (j : Nat) : Option D:=
  if j + n ≤ cs.length then (if a then some (.agg ((cs.drop j).take n)) else if n = 1 then cs[j]? else none) else none
def partF (n : Option Nat) (a : Option Bool) (x : D) (cs : List D) (q : Bool) (j : Nat) : Option D:=
  n.bind fun n=>a.bind fun a=>if j = 0 ∧ cs.length = n ∧ q = a then some x else partG n a cs j
theorem partE_eq {t : TypeId} {x : D} {j : Nat} : partE P t x j = partF (sizeT P t) (isAggT P t) x x.cells (aggQ x) j:=by
  unfold partE partF partD partG
  cases sizeT P t <;> cases isAggT P t <;> rfl
theorem partF_some {n : Nat} {a q : Bool} {x : D} {cs : List D} {j : Nat} : partF (some n) (some a) x cs q j = if j = 0 ∧ cs.length = n ∧ q = a then some x else partG n a cs j:=rfl
theorem partD_eq {t : TypeId} {cs : List D} {j : Nat} : partD P t cs j = (sizeT P t).bind fun n=>(isAggT P t).bind fun a=>partG n a cs j:=rfl
def setF (nt : Bool) (v : D) (vc : List D) (vq : Bool) (xc : List D) (xq : Bool) (j : Nat) : Option D:=
  if nt = false then none else if j = 0 ∧ vc.length = xc.length ∧ vq = xq then some v else if j + vc.length ≤ xc.length ∧ xq then some (.agg (spliceL xc j vc)) else none
theorem setE_eq {x v : D} {j : Nat} : setE x j v = setF (noTup v) v v.cells (aggQ v) x.cells (aggQ x) j:=rfl
theorem setF_true {v : D} {vc : List D} {vq : Bool} {xc : List D} {xq : Bool} {j : Nat} : setF true v vc vq xc xq j = if j = 0 ∧ vc.length = xc.length ∧ vq = xq then some v else if j + vc.length ≤ xc.length ∧ xq then some (.agg (spliceL xc j vc)) else none:=rfl
def storeQ (H : Heap) (r i : Nat) (xs : List D) (x : Option D) : Option Heap:=x.map fun x=>H.set r (.arr (xs.set i x))
theorem storeQ_some {r i : Nat} {xs : List D} {x : D} : storeQ H r i xs (some x) = some (H.set r (.arr (xs.set i x))):=rfl
def storeP (n : Option Nat) (vc : List D) (H : Heap) (r i j : Nat) (xs : List D) (x : Option D) (v : D) : Option Heap:=
  n.bind fun n=>if vc.length = n then x.bind fun x=>storeQ H r i xs (setE x j v) else none
theorem orS_some {n : Nat} {x : Option Nat} : orS (some n) x = some n:=rfl
theorem orS_none {x : Option Nat} : orS none x = x:=rfl
theorem storeP_some {n : Nat} {vc : List D} {r i j : Nat} {xs : List D} {x v : D} : storeP (some n) vc H r i j xs (some x) v = if vc.length = n then storeQ H r i xs (setE x j v) else none:=rfl
def storeO (P : Program) (t : TypeId) (H : Heap) (o : Ob) (r i j : Nat) (v : D) : Option Heap:=
  match o with
  | .arr xs=>storeP (orS (sizeT P t) (sizeZ P t)) v.cells H r i j xs xs[i]? v
  | _=>none
theorem storeD_ptr {t : TypeId} {r i j : Nat} {v : D} : storeD P t H (.ptr r i j) v = storeO P t H (hget H r) r i j v:=by
  unfold storeD storeO storeP storeQ sizeS;rfl
theorem storeO_arr {t : TypeId} {xs : List D} {r i j : Nat} {v : D} : storeO P t H (.arr xs) r i j v = storeP (orS (sizeT P t) (sizeZ P t)) v.cells H r i j xs xs[i]? v:=rfl
theorem moveP_ptr {r i j o : Nat} : moveP (.ptr r i j) o = some (.ptr r i (j + o)):=rfl
theorem moveP_ept {x : D} {j o : Nat} : moveP (.ept x j) o = some (.ept x (j + o)):=rfl
def iaT (y : Option D) (n : Nat) : Option D:=y.bind fun y=>if y.cells.length = n then some (.ept y 0) else none
theorem iaT_some {y : D} {n : Nat} : iaT (some y) n = if y.cells.length = n then some (.ept y 0) else none:=rfl
def iaS (k n : Option Nat) (xs : List D) : Option D:=k.bind fun k=>n.bind fun n=>iaT xs[k]? n
theorem iaS_some {k n : Nat} {xs : List D} : iaS (some k) (some n) xs = iaT xs[k]? n:=rfl
def iaV (k z : Option Nat) (H : Heap) (r o : Nat) : Option D:=k.bind fun k=>z.bind fun z=>if vecSize H r z then some (.ptr r (o + k) 0) else none
theorem iaV_some {k z r o : Nat} : iaV (some k) (some z) H r o = if vecSize H r z then some (.ptr r (o + k) 0) else none:=rfl
def iaA (k m : Option Nat) (x : D) : Option D:=k.bind fun k=>m.bind fun m=>moveP x (k * m)
theorem iaA_some {k m : Nat} {x : D} : iaA (some k) (some m) x = moveP x (k * m):=rfl
def iaU (P : Program) (u : Option TypeDesc) (H : Heap) (x i : D) : Option D:=
  match u with
  | some (.slice e)=>match x with
    | .sl _ xs=>iaS (inRange i xs.length) (sizeT P e) xs
    | .vec r o n=>iaV (inRange i n) (sizeT P e) H r o
    | _=>none
  | some (.array n e)=>iaA (inRange i n) (sizeT P e) x
  | _=>none
theorem indexAddrD_eq {t : TypeId} {x i : D} : indexAddrD P t H x i = iaU P (P.underlying t) H x i:=by
  unfold indexAddrD iaU iaS iaV iaA iaT;rfl
theorem iaU_sl {e : TypeId} {f : Bool} {xs : List D} {i : D} : iaU P (some (.slice e)) H (.sl f xs) i = iaS (inRange i xs.length) (sizeT P e) xs:=rfl
theorem iaU_vec {e : TypeId} {r o n : Nat} {i : D} : iaU P (some (.slice e)) H (.vec r o n) i = iaV (inRange i n) (sizeT P e) H r o:=rfl
theorem iaU_arr {e : TypeId} {n : Nat} {x i : D} : iaU P (some (.array n e)) H x i = iaA (inRange i n) (sizeT P e) x:=rfl
def lenU (u : Option TypeDesc) (H : Heap) (x : D) : Option Nat:=
  match u,x with
  | some .string,.str s=>some s.length
  | some (.array n _),_=>some n
  | some (.slice _),.sl _ xs=>some xs.length
  | some (.slice _),.vec _ _ n=>some n
  | some (.map _ _),.nilm=>some 0
  | some (.map _ _),.map r=>match hget H r with
    | .map es=>some es.length
    | _=>none
  | _,_=>none
theorem lenD_eq {t : TypeId} {x : D} : lenD P t H x = lenU (P.underlying t) H x:=rfl
theorem lenU_str {s : List UInt8} : lenU (some .string) H (.str s) = some s.length:=rfl
theorem lenU_arr {n : Nat} {e : TypeId} {x : D} : lenU (some (.array n e)) H x = some n:=by cases x <;> rfl
theorem lenU_sl {e : TypeId} {f : Bool} {xs : List D} : lenU (some (.slice e)) H (.sl f xs) = some xs.length:=rfl
theorem lenU_vec {e : TypeId} {r o n : Nat} : lenU (some (.slice e)) H (.vec r o n) = some n:=rfl
theorem lenU_nilm {k e : TypeId} : lenU (some (.map k e)) H .nilm = some 0:=rfl
def lenB (n : Option Nat) (H : Heap) : Option (D × Heap):=n.map fun n=>(.int .i64 n,H)
theorem lenB_some {n : Nat} : lenB (some n) H = some (.int .i64 n,H):=rfl
theorem builtin_len {t : TypeId} {x : D} : builtinD P .len [t] [x] H = lenB (lenD P t H x) H:=rfl
def appB (P : Program) (u : Option TypeDesc) (t : TypeId) (H : Heap) (s x : D) : Option (D × Heap):=
  match u with
  | some (.slice _) | some .string=>appendD P t H s x
  | _=>none
theorem builtin_append {t u : TypeId} {s x : D} : builtinD P .append [t,u] [s,x] H = appB P (P.underlying u) t H s x:=rfl
theorem appB_slice {e t : TypeId} {s x : D} : appB P (some (.slice e)) t H s x = appendD P t H s x:=rfl
theorem appB_string {t : TypeId} {s x : D} : appB P (some .string) t H s x = appendD P t H s x:=rfl
theorem builtin_min {ts : List TypeId} {l : List D} : builtinD P .min ts l H = (fold1 minD l).map (·,H):=by cases ts <;> rfl
theorem builtin_max {ts : List TypeId} {l : List D} : builtinD P .max ts l H = (fold1 maxD l).map (·,H):=by cases ts <;> rfl
theorem min_two {k : IntKind} {a b : Int} : fold1 minD [.int k a,.int k b] = some (.int k (if b < a then b else a)):=by simp [fold1,minD]
theorem max_two {k : IntKind} {a b : Int} : fold1 maxD [.int k a,.int k b] = some (.int k (if a < b then b else a)):=by simp [fold1,maxD]
theorem okD_s {d : D} : okD H (some d) = some (.ok d H):=rfl
theorem okH_s {d : D} {H' : Heap} : okH (some (d,H')) = some (.ok d H'):=rfl
theorem okU_s {H' : Heap} : okU (some H') = some (.ok ud H'):=rfl
theorem binD_add {t : TypeId} {k : IntKind} {a b : Int} : binD P .add t (.int k a) (.int k b) = some (.int k (k.wrap (a + b))):=by simp [binD,intBin]
theorem binD_sub {t : TypeId} {k : IntKind} {a b : Int} : binD P .sub t (.int k a) (.int k b) = some (.int k (k.wrap (a - b))):=by simp [binD,intBin]
theorem binD_mul {t : TypeId} {k : IntKind} {a b : Int} : binD P .mul t (.int k a) (.int k b) = some (.int k (k.wrap (a * b))):=by simp [binD,intBin]
theorem binD_and {t : TypeId} {k : IntKind} {a b : Int} : binD P .and t (.int k a) (.int k b) = some (.int k (k.wrap (BitVec.ofInt k.bits a &&& BitVec.ofInt k.bits b).toNat)):=by simp [binD,intBin]
theorem binD_or {t : TypeId} {k : IntKind} {a b : Int} : binD P .or t (.int k a) (.int k b) = some (.int k (k.wrap (BitVec.ofInt k.bits a ||| BitVec.ofInt k.bits b).toNat)):=by simp [binD,intBin]
theorem binD_xor {t : TypeId} {k : IntKind} {a b : Int} : binD P .xor t (.int k a) (.int k b) = some (.int k (k.wrap (BitVec.ofInt k.bits a ^^^ BitVec.ofInt k.bits b).toNat)):=by simp [binD,intBin]
theorem binD_andNot {t : TypeId} {k : IntKind} {a b : Int} : binD P .andNot t (.int k a) (.int k b) = some (.int k (k.wrap (BitVec.ofInt k.bits a &&& ~~~ BitVec.ofInt k.bits b).toNat)):=by simp [binD,intBin]
theorem binD_eql {t : TypeId} {k : IntKind} {a b : Int} : binD P .eql t (.int k a) (.int k b) = some (.bool (a == b)):=by simp [binD,intBin]
theorem binD_neq {t : TypeId} {k : IntKind} {a b : Int} : binD P .neq t (.int k a) (.int k b) = some (.bool (a != b)):=by simp [binD,intBin]
theorem binD_lss {t : TypeId} {k : IntKind} {a b : Int} : binD P .lss t (.int k a) (.int k b) = some (.bool (decide (a < b))):=by simp [binD,intBin]
theorem binD_leq {t : TypeId} {k : IntKind} {a b : Int} : binD P .leq t (.int k a) (.int k b) = some (.bool (decide (a ≤ b))):=by simp [binD,intBin]
theorem binD_gtr {t : TypeId} {k : IntKind} {a b : Int} : binD P .gtr t (.int k a) (.int k b) = some (.bool (decide (b < a))):=by simp [binD,intBin]
theorem binD_geq {t : TypeId} {k : IntKind} {a b : Int} : binD P .geq t (.int k a) (.int k b) = some (.bool (decide (b ≤ a))):=by simp [binD,intBin]
theorem binD_quo {t : TypeId} {k : IntKind} {a b : Int} : binD P .quo t (.int k a) (.int k b) = if b = 0 then none else some (.int k (k.wrap (a.tdiv b))):=by simp [binD,intBin]
theorem binD_rem {t : TypeId} {k : IntKind} {a b : Int} : binD P .rem t (.int k a) (.int k b) = if b = 0 then none else some (.int k (a.tmod b)):=by simp [binD,intBin]
theorem binN_false {o : BinOp} {t : TypeId} {a b : D} : binN false P o t a b = binD P o t a b:=rfl
theorem binN_true {o : BinOp} {t : TypeId} {a b : D} : binN true P o t a b = nilCmp P o t a:=rfl
theorem isS_some {x : TypeId} : (some x : Option TypeId).isSome = true:=rfl
theorem nilS_tmp {t : Tmp} : nilS (.tmp t) = false:=rfl
theorem nilS_int {k : IntKind} {n : Int} : nilS (.const (.int k n)) = false:=rfl
theorem nilS_str {s : ByteArray} : nilS (.const (.string s)) = false:=rfl
theorem nilS_bool {b : Bool} : nilS (.const (.bool b)) = false:=rfl
theorem nilS_ptr : nilS (.const (.pointer none)) = false:=rfl
theorem nilS_nilI : nilS (.const .nilIface) = false:=rfl
theorem nilS_nilF : nilS (.const .nilFunc) = false:=rfl
theorem nilS_map : nilS (.const (.map none)) = false:=rfl
theorem nilS_nil : nilS (.const (.slice none 0 0)) = true:=rfl
attribute [go_sem] binN_false binN_true nilS_tmp nilS_int nilS_str nilS_bool nilS_ptr nilS_nilI nilS_nilF nilS_map nilS_nil nilCmp neverNil nilOp isS_some
theorem binD_shl {t : TypeId} {k k2 : IntKind} {a b : Int} : binD P .shl t (.int k a) (.int k2 b) = if b < 0 then none else some (.int k (k.wrap (a * 2 ^ (min b.toNat k.bits)))):=rfl
theorem binD_shr {t : TypeId} {k k2 : IntKind} {a b : Int} : binD P .shr t (.int k a) (.int k2 b) = if b < 0 then none else some (.int k (a.fdiv (2 ^ (min b.toNat k.bits)))):=rfl
theorem binD_str {o : BinOp} {t : TypeId} {a b : List UInt8} : binD P o t (.str a) (.str b) = strBin o a b:=rfl
theorem binD_booleq {t : TypeId} {a b : Bool} : binD P .eql t (.bool a) (.bool b) = (eqD P t (.bool a) (.bool b)).map .bool:=rfl
theorem binD_boolne {t : TypeId} {a b : Bool} : binD P .neq t (.bool a) (.bool b) = (eqD P t (.bool a) (.bool b)).map fun b=>.bool (!b):=rfl
theorem binD_aggeq {t : TypeId} {a b : List D} : binD P .eql t (.agg a) (.agg b) = (eqD P t (.agg a) (.agg b)).map .bool:=rfl
theorem binD_aggne {t : TypeId} {a b : List D} : binD P .neq t (.agg a) (.agg b) = (eqD P t (.agg a) (.agg b)).map fun b=>.bool (!b):=rfl
theorem unD_neg {k : IntKind} {n : Int} : unD .neg (.int k n) = some (.int k (k.wrap (0 - n))):=rfl
theorem unD_not {b : Bool} : unD .not (.bool b) = some (.bool (!b)):=rfl
def convS (u : Option TypeDesc) (xs : Option (List D)) (H : Heap) : Option (D × Heap):=
  match u with
  | some (.int .u8)=>xs.bind fun xs=>(bytesBack xs).map fun s=>(.str s,H)
  | _=>none
theorem convS_u8 {xs : List D} : convS (some (.int .u8)) (some xs) H = (bytesBack xs).map fun s=>(.str s,H):=rfl
def convU (P : Program) (a b : Option TypeDesc) (x : D) (H : Heap) : Option (D × Heap):=
  match a,b,x with
  | some (.int _),some (.int k),.int _ n=>some (.int k (k.wrap n),H)
  | some .string,some .string,.str s=>some (.str s,H)
  | some (.slice e),some .string,x=>convS (P.underlying e) (elems H x) H
  | some (.pointer t),some .unsafePointer,.ptr r i j=>match hget H r with
    | .arr xs=>(xs[i]?).bind fun x=>(x.cells[j]?).bind fun _=>(sizeT P t).map fun _=>(.ptr r i j,H)
    | _=>none
  | _,_,_=>none
def elemsO (ob : Ob) (o n : Nat) : Option (List D):=
  match ob with
  | .arr xs | .fro xs=>if o + n ≤ xs.length then some ((xs.drop o).take n) else none
  | _=>none
theorem elems_vec {r o n : Nat} : elems H (.vec r o n) = elemsO (hget H r) o n:=by
  unfold elems elemsO;rfl
theorem elems_sl {f : Bool} {xs : List D} : elems H (.sl f xs) = some xs:=rfl
theorem elemsO_arr {xs : List D} {o n : Nat} : elemsO (.arr xs) o n = if o + n ≤ xs.length then some ((xs.drop o).take n) else none:=rfl
theorem elemsO_fro {xs : List D} {o n : Nat} : elemsO (.fro xs) o n = if o + n ≤ xs.length then some ((xs.drop o).take n) else none:=rfl
theorem bytesBack_nil : bytesBack [] = some []:=rfl
theorem bytesBack_cons {n : Int} {r : List D} : bytesBack (.int .u8 n :: r) = (bytesBack r).map (UInt8.ofNat n.toNat :: ·):=rfl
theorem strBin_add {a b : List UInt8} (h : a.length + b.length < 4611686018427387904) : strBin .add a b = some (.str (a ++ b)):=by
  simp only [strBin];rw [if_pos (by omega)]
theorem strBin_eql {a b : List UInt8} : strBin .eql a b = some (.bool (a == b)):=rfl
theorem strBin_neq {a b : List UInt8} : strBin .neq a b = some (.bool (!(a == b))):=rfl
theorem cons_beq_nil {x : UInt8} {l : List UInt8} : ((x :: l : List UInt8) == []) = false:=rfl
theorem nil_beq_cons {x : UInt8} {l : List UInt8} : (([] : List UInt8) == x :: l) = false:=rfl
theorem convD_eq {s t : TypeId} {x : D} : convD P s t x H = convU P (P.underlying s) (P.underlying t) x H:=by
  unfold convD convU convS;rfl
theorem convU_bytes {e : TypeId} {x : D} : convU P (some (.slice e)) (some .string) x H = convS (P.underlying e) (elems H x) H:=by cases x <;> rfl
theorem convU_int {k k' l : IntKind} {n : Int} : convU P (some (.int l)) (some (.int k)) (.int k' n) H = some (.int k (k.wrap n),H):=rfl
theorem convU_str {s : List UInt8} : convU P (some .string) (some .string) (.str s) H = some (.str s,H):=rfl
def sliceU (P : Program) (u : Option TypeDesc) (H : Heap) (x : D) (lo hi mx : Option D) : Option D:=
  match u,x,mx with
  | some .string,.str s,none=>(bound lo 0).bind fun l=>(bound hi s.length).bind fun h=>if l ≤ h ∧ h ≤ s.length then some (.str ((s.take h).drop l)) else none
  | some (.slice e),.sl f xs,none=>(sizeT P e).bind fun n=>(bound lo 0).bind fun l=>(bound hi xs.length).bind fun h=>
      if l ≤ h ∧ h ≤ xs.length ∧ headSize n xs then some (.sl (f && h == xs.length) ((xs.take h).drop l)) else none
  | some (.slice e),.sl _ xs,some m=>(sizeT P e).bind fun n=>(bound lo 0).bind fun l=>(bound hi xs.length).bind fun h=>(bound (some m) 0).bind fun m=>
      if l ≤ h ∧ h ≤ m ∧ m ≤ xs.length ∧ headSize n xs ∧ hi.isSome then some (.sl (h == m) ((xs.take h).drop l)) else none
  | some (.slice e),.vec r o n,none=>(sizeT P e).bind fun z=>(bound lo 0).bind fun l=>(bound hi n).bind fun h=>
      if l ≤ h ∧ h ≤ n ∧ vecSize H r z then some (if l = h then .sl false [] else .vec r (o + l) (h - l)) else none
  | some (.slice e),.vec r o n,some m=>(sizeT P e).bind fun z=>(bound lo 0).bind fun l=>(bound hi n).bind fun h=>(bound (some m) 0).bind fun m=>
      if l = h ∧ h = m ∧ m ≤ n ∧ vecSize H r z ∧ hi.isSome then some (.sl true []) else none
  | _,_,_=>none
theorem sliceD_eq {t : TypeId} {x : D} {lo hi mx : Option D} : sliceD P t H x lo hi mx = sliceU P (P.underlying t) H x lo hi mx:=rfl
def slS (lo hi : Option Nat) (s : List UInt8) : Option D:=lo.bind fun l=>hi.bind fun h=>if l ≤ h ∧ h ≤ s.length then some (.str ((s.take h).drop l)) else none
theorem slS_some {l h : Nat} {s : List UInt8} : slS (some l) (some h) s = if l ≤ h ∧ h ≤ s.length then some (.str ((s.take h).drop l)) else none:=rfl
theorem sliceU_str {s : List UInt8} {lo hi : Option D} : sliceU P (some .string) H (.str s) lo hi none = slS (bound lo 0) (bound hi s.length) s:=rfl
def slL (n lo hi : Option Nat) (f : Bool) (xs : List D) : Option D:=n.bind fun n=>lo.bind fun l=>hi.bind fun h=>if l ≤ h ∧ h ≤ xs.length ∧ headSize n xs then some (.sl (f && h == xs.length) ((xs.take h).drop l)) else none
theorem slL_some {n l h : Nat} {f : Bool} {xs : List D} : slL (some n) (some l) (some h) f xs = if l ≤ h ∧ h ≤ xs.length ∧ headSize n xs then some (.sl (f && h == xs.length) ((xs.take h).drop l)) else none:=rfl
theorem sliceU_sl {e : TypeId} {f : Bool} {xs : List D} {lo hi : Option D} : sliceU P (some (.slice e)) H (.sl f xs) lo hi none = slL (sizeT P e) (bound lo 0) (bound hi xs.length) f xs:=rfl
def slV (z lo hi : Option Nat) (H : Heap) (r o n : Nat) : Option D:=z.bind fun z=>lo.bind fun l=>hi.bind fun h=>if l ≤ h ∧ h ≤ n ∧ vecSize H r z then some (if l = h then .sl false [] else .vec r (o + l) (h - l)) else none
theorem slV_some {z l h r o n : Nat} : slV (some z) (some l) (some h) H r o n = if l ≤ h ∧ h ≤ n ∧ vecSize H r z then some (if l = h then .sl false [] else .vec r (o + l) (h - l)) else none:=rfl
theorem sliceU_vec {e : TypeId} {r o n : Nat} {lo hi : Option D} : sliceU P (some (.slice e)) H (.vec r o n) lo hi none = slV (sizeT P e) (bound lo 0) (bound hi n) H r o n:=rfl
theorem bound_none {n : Nat} : bound none n = some n:=rfl
theorem bound_int {k : IntKind} {v : Int} {n : Nat} : bound (some (.int k v)) n = if 0 ≤ v then some v.toNat else none:=rfl
def ixA (k m : Option Nat) (P : Program) (e : TypeId) (cs : List D) : Option D:=k.bind fun k=>m.bind fun m=>partD P e cs (k * m)
theorem ixA_some {k m : Nat} {e : TypeId} {cs : List D} : ixA (some k) (some m) P e cs = partD P e cs (k * m):=rfl
def ixS (k : Option Nat) (s : List UInt8) : Option D:=k.bind fun k=>(s[k]?).map fun b=>.int .u8 b.toNat
def ixT (b : Option UInt8) : Option D:=b.map fun b=>.int .u8 b.toNat
theorem ixS_some {k : Nat} {s : List UInt8} : ixS (some k) s = ixT s[k]?:=rfl
theorem ixT_some {b : UInt8} : ixT (some b) = some (.int .u8 b.toNat):=rfl
def ixU (P : Program) (u : Option TypeDesc) (x i : D) : Option D:=
  match u,x with
  | some (.array n e),.agg cs=>ixA (inRange i n) (sizeT P e) P e cs
  | some .string,.str s=>ixS (inRange i s.length) s
  | _,_=>none
theorem indexD_eq {t : TypeId} {x i : D} : indexD P t x i = ixU P (P.underlying t) x i:=by
  unfold indexD ixU ixA ixS;rfl
theorem ixU_arr {n : Nat} {e : TypeId} {cs : List D} {i : D} : ixU P (some (.array n e)) (.agg cs) i = ixA (inRange i n) (sizeT P e) P e cs:=rfl
theorem ixU_str {s : List UInt8} {i : D} : ixU P (some .string) (.str s) i = ixS (inRange i s.length) s:=rfl
end
attribute [go_sem low] getE? lt_falseN le_falseN lt_falseZ le_falseZ lt_trueN le_trueN lt_trueZ le_trueZ beq_falseZ bne_trueZ
attribute [go_sem] partO_some loadD_ptr loadD_ept loadO_arr loadO_fro partG partE_eq partF_some partD_eq setE_eq setF_true storeQ_some orS_some orS_none storeP_some storeD_ptr storeO_arr moveP_ptr moveP_ept iaT_some iaS_some iaV_some iaA_some indexAddrD_eq iaU_sl iaU_vec iaU_arr lenD_eq lenU_str lenU_arr lenU_sl lenU_vec lenU_nilm lenB_some builtin_len builtin_append appB_slice appB_string builtin_min builtin_max min_two max_two okD_s okH_s okU_s binD_add binD_sub binD_mul binD_and binD_or binD_xor binD_andNot binD_eql binD_neq binD_lss binD_leq binD_gtr binD_geq binD_quo binD_rem binD_shl binD_shr binD_str binD_booleq binD_boolne binD_aggeq binD_aggne unD_neg unD_not convD_eq convU_bytes convS_u8 elems_vec elems_sl strBin_add strBin_eql strBin_neq cons_beq_nil nil_beq_cons elemsO_arr elemsO_fro bytesBack_nil bytesBack_cons convU_int convU_str sliceD_eq slS_some sliceU_str slL_some sliceU_sl slV_some sliceU_vec bound_none bound_int ixA_some ixS_some ixT_some indexD_eq ixU_arr ixU_str
attribute [go_sem] implies_true forall_const hget_set_ne hget_set_eq inRange_ok mostBytes_eq wi64 wi32 wu8 wu16 wu32 wu64 hget_app_lt Int.toNat_natCast_add_one Int.add_sub_cancel List.length_set
attribute [go_sem] stepOp deferC evalO evalOs evalOo partsD dstOk putO_some putO_none put_at df_put ofV ofArgs List.getD_cons_zero List.getD_cons_succ List.getD_nil Option.map_some Option.map_none Option.bind_some Option.bind_none true_and and_true SeqQ_norm SeqQ_exit SeqQ_ret SeqQ_pan BlkQ_norm BlkQ_exit BlkQ_ret BlkQ_pan RetQ_norm RetQ_ret RetQ_pan
attribute [go_sem] decide_true decide_false Bool.false_eq_true eq_self if_false if_true resD oneD_one outPure_int outPure_bool List.getElem?_toArray List.getElem?_cons_zero List.getElem?_cons_succ List.size_toArray List.length_cons List.length_nil newOb spliceL hget_app0 hget_app hget_cons0 hget_consS set_app0 set_app List.set_cons_zero List.set_cons_succ and_self
attribute [go_sem] List.length_map List.getElem?_map Int.natCast_nonneg Int.ofNat_lt Int.toNat_natCast List.append_nil List.nil_append List.cons_append List.drop_zero List.drop_succ_cons List.take_succ_cons List.take_zero Nat.zero_add Nat.add_zero Nat.zero_mul Int.toNat_zero Option.bind_eq_bind Option.pure_def gt_iff_lt ge_iff_le beq_true beq_false Bool.not_true Bool.not_false Bool.true_and Bool.false_and Bool.and_true Bool.and_false Bool.true_or Bool.false_or Bool.or_true Bool.or_false
attribute [go_sem] List.isEmpty_toArray List.isEmpty_nil List.isEmpty_cons List.all_nil List.all_cons beq_self_eq_true bne_self_eq_false Int.cast_ofNat_Int Nat.lt_irrefl Int.lt_irrefl Nat.le_refl Int.le_refl Nat.not_lt_zero Nat.zero_le List.map_nil List.map_cons
theorem toNat_p2 (k : Nat) : ((k : Int) + 2).toNat = k + 2:=by omega
theorem toNat_p3 (k : Nat) : ((k : Int) + 3).toNat = k + 3:=by omega
theorem toNat_p4 (k : Nat) : ((k : Int) + 4).toNat = k + 4:=by omega
theorem toNat_add (a b : Nat) : ((a : Int) + (b : Int)).toNat = a + b:=by omega
theorem toNat_m1 (k : Nat) : ((k : Int) - 1).toNat = k - 1:=by omega
theorem toNat_sub (a b : Nat) : ((a : Int) - (b : Int)).toNat = a - b:=by omega
attribute [go_sem] toNat_p2 toNat_p3 toNat_p4 toNat_add toNat_m1 toNat_sub false_and and_false or_false false_or or_true true_or not_true_eq_false not_false_eq_true List.getElem?_concat_length List.length_append Int.natCast_add Nat.add_sub_cancel
attribute [go_sem] fillD fillE buildSliceD List.replicate_succ List.replicate_zero assertD
def PP (p : Prop) : Prop:=p
theorem pp_eq {p : Prop} : PP p = p:=rfl
def wantV (x : D) (w : Bool) : Option Bool:=
  match x with
  | .bool b=>some (b == w)
  | _=>some false
theorem wantV_ud {w : Bool} : wantV ud w = some false:=rfl
theorem wantV_bool {b w : Bool} : wantV (.bool b) w = some (b == w):=rfl
def wantS (e : Env) (d : Option Nat) (w : Bool) : Option Bool:=
  match d with
  | some d=>wantV (e d) w
  | none=>some false
theorem wantS_some {e : Env} {d : Nat} {w : Bool} : wantS e (some d) w = wantV (e d) w:=rfl
def slotL (l : List (Option Nat)) (j : Nat) : Option Nat:=
  match l,j with
  | [],_=>none
  | o :: _,0=>o
  | _ :: r,j + 1=>slotL r j
theorem slotL_zero {o : Option Nat} {r : List (Option Nat)} : slotL (o :: r) 0 = o:=rfl
theorem slotL_succ {o : Option Nat} {r : List (Option Nat)} {j : Nat} : slotL (o :: r) (j + 1) = slotL r j:=rfl
theorem slotL_eq : ∀ (l : List Oper) (j : Nat),slotL (l.map (·.dst)) j = (l.toArray[j]?).bind (·.dst)
  | [],_=>by simp [slotL]
  | o :: _,0=>by simp [slotL]
  | o :: r,j + 1=>by
    have:=slotL_eq r j
    simp only [List.map_cons,slotL,this]
    simp
def wantG (l : List (Option Nat)) (e : Env) (g : Option (Nat × Bool)) : Option Bool:=
  match g with
  | none=>some true
  | some (j,w)=>wantS e (slotL l j) w
theorem wantG_none {l : List (Option Nat)} {e : Env} : wantG l e none = some true:=rfl
theorem wantG_some {l : List (Option Nat)} {e : Env} {j : Nat} {w : Bool} : wantG l e (some (j,w)) = wantS e (slotL l j) w:=rfl
theorem wantD_eq {l : List Oper} {e : Env} {o : Oper} : wantD l.toArray e o = wantG (l.map (·.dst)) e o.guard:=by
  unfold wantD wantG
  cases o.guard with
  | none=>rfl
  | some g=>
    obtain ⟨j,w⟩:=g
    simp only [slotL_eq]
    cases (l.toArray[j]?).bind (·.dst) <;> rfl
abbrev TyP {α : Type} (_ : α) : Type:=Prop
section
variable {P : Program} {A : Ann} {N : Nat}
def WpB (P : Program) (A : Ann) (N : Nat) (c : Code) (e : Env) (H : Heap) (Q : Ex → Env → Heap → Prop) : TyP (c,Q):=WpC P A N c e H Q
def EvB (P : Program) (A : Ann) (f : FuncId) (args : List D) (H : Heap) (K Kp : D → Heap → Prop) : TyP (K,Kp):=EvC P A f args H K Kp
def EvFB (P : Program) (A : Ann) (f : FuncId) (args : List D) (H : Heap) (K Kp : D → Heap → Prop) : TyP (K,Kp):=EvF P A f args H K Kp
theorem evB_of {f : FuncId} {args : List D} {H : Heap} {K Kp : D → Heap → Prop} : EvC P A f args H K Kp = EvB P A f args H K Kp:=rfl
def outB (x : Option R) (K Kp : D → Heap → Prop) : TyP (K,Kp):=
  match x with
  | some (.ok d H')=>K d H'
  | some (.pan d H')=>Kp d H'
  | none=>False
theorem outB_ok {d : D} {H : Heap} {K Kp : D → Heap → Prop} : @Eq Prop (outB (some (.ok d H)) K Kp) (K d H):=rfl
theorem outB_pan {d : D} {H : Heap} {K Kp : D → Heap → Prop} : @Eq Prop (outB (some (.pan d H)) K Kp) (Kp d H):=rfl
theorem outB_none {K Kp : D → Heap → Prop} : @Eq Prop (outB none K Kp) (False):=rfl
def callB (P : Program) (A : Ann) (args : Option (List D)) (f : Option D) (H : Heap) (K Kp : D → Heap → Prop) : TyP (K,Kp):=
  match args,f with
  | some args,some (.fn g cs)=>EvC P A g (args ++ cs) H K Kp
  | some args,some (.bfn g cs)=>EvC P A g (cs ++ args) H K Kp
  | some args,some (.yld r)=>EvF P A (P.funcs.size + r) args H K Kp
  | _,_=>False
theorem callB_bfn {args cs : List D} {g : FuncId} {H : Heap} {K Kp : D → Heap → Prop} : @Eq Prop (callB P A (some args) (some (.bfn g cs)) H K Kp) (EvB P A g (cs ++ args) H K Kp):=rfl
theorem callB_fn {args cs : List D} {g : FuncId} {H : Heap} {K Kp : D → Heap → Prop} : @Eq Prop (callB P A (some args) (some (.fn g cs)) H K Kp) (EvB P A g (args ++ cs) H K Kp):=rfl
theorem callB_yld {args : List D} {r : Nat} {H : Heap} {K Kp : D → Heap → Prop} : @Eq Prop (callB P A (some args) (some (.yld r)) H K Kp) (EvFB P A (P.funcs.size + r) args H K Kp):=rfl
def vOpB (P : Program) (A : Ann) (o : Op) (e : Env) (H : Heap) (K Kp : D → Heap → Prop) : TyP (K,Kp):=vOp P A o e H K Kp
theorem vOpB_call {f : Operand} {args : Array Operand} {ts : Array TypeId} {e : Env} {H : Heap} {K Kp : D → Heap → Prop} : @Eq Prop (vOpB P A (.call ⟨.value f,args,ts⟩) e H K Kp) (callB P A (evalOs e args.toList) (evalO e f) H K Kp):=by
  show (match evalOs e args.toList,evalO e f with
    | some args,some (.fn g cs)=>EvC P A g (args ++ cs) H K Kp
    | some args,some (.bfn g cs)=>EvC P A g (cs ++ args) H K Kp
    | some args,some (.yld r)=>EvF P A (P.funcs.size + r) args H K Kp
    | _,_=>False) = _
  unfold callB
  generalize evalOs e args.toList = a
  generalize evalO e f = b
  cases a <;> cases b <;> rfl
theorem vOpB_move (x : Operand) {e : Env} {H : Heap} {K Kp : D → Heap → Prop} : @Eq Prop (vOpB P A (.move x) e H K Kp) (outB (stepOp P A noCall (.move x) e H) K Kp):=rfl
theorem vOpB_assign (x : Operand) {e : Env} {H : Heap} {K Kp : D → Heap → Prop} : @Eq Prop (vOpB P A (.assign x) e H K Kp) (outB (stepOp P A noCall (.assign x) e H) K Kp):=rfl
theorem vOpB_pick (x y z : Operand) {e : Env} {H : Heap} {K Kp : D → Heap → Prop} : @Eq Prop (vOpB P A (.pick x y z) e H K Kp) (outB (stepOp P A noCall (.pick x y z) e H) K Kp):=rfl
theorem vOpB_alloc (t : TypeId) {e : Env} {H : Heap} {K Kp : D → Heap → Prop} : @Eq Prop (vOpB P A (.alloc t) e H K Kp) (outB (stepOp P A noCall (.alloc t) e H) K Kp):=rfl
theorem vOpB_box (t : TypeId) (x : Operand) {e : Env} {H : Heap} {K Kp : D → Heap → Prop} : @Eq Prop (vOpB P A (.box t x) e H K Kp) (outB (stepOp P A noCall (.box t x) e H) K Kp):=rfl
theorem vOpB_build (t : TypeId) (ps : Array (Nat × Operand)) {e : Env} {H : Heap} {K Kp : D → Heap → Prop} : @Eq Prop (vOpB P A (.build t ps) e H K Kp) (outB (stepOp P A noCall (.build t ps) e H) K Kp):=rfl
theorem vOpB_buildSlice (t : TypeId) (n : Nat) (ps : Array (Nat × Operand)) {e : Env} {H : Heap} {K Kp : D → Heap → Prop} : @Eq Prop (vOpB P A (.buildSlice t n ps) e H K Kp) (outB (stepOp P A noCall (.buildSlice t n ps) e H) K Kp):=rfl
theorem vOpB_load (t : TypeId) (x : Operand) {e : Env} {H : Heap} {K Kp : D → Heap → Prop} : @Eq Prop (vOpB P A (.load t x) e H K Kp) (outB (stepOp P A noCall (.load t x) e H) K Kp):=rfl
theorem vOpB_store (t : TypeId) (x y : Operand) {e : Env} {H : Heap} {K Kp : D → Heap → Prop} : @Eq Prop (vOpB P A (.store t x y) e H K Kp) (outB (stepOp P A noCall (.store t x y) e H) K Kp):=rfl
theorem vOpB_nilCheck (x : Operand) {e : Env} {H : Heap} {K Kp : D → Heap → Prop} : @Eq Prop (vOpB P A (.nilCheck x) e H K Kp) (outB (stepOp P A noCall (.nilCheck x) e H) K Kp):=rfl
theorem vOpB_binOp (o : BinOp) (t : TypeId) (x y : Operand) (s : TypeId) {e : Env} {H : Heap} {K Kp : D → Heap → Prop} : @Eq Prop (vOpB P A (.binOp o t x y s) e H K Kp) (outB (stepOp P A noCall (.binOp o t x y s) e H) K Kp):=rfl
theorem vOpB_unOp (o : UnOp) (t : TypeId) (x : Operand) {e : Env} {H : Heap} {K Kp : D → Heap → Prop} : @Eq Prop (vOpB P A (.unOp o t x) e H K Kp) (outB (stepOp P A noCall (.unOp o t x) e H) K Kp):=rfl
theorem vOpB_convert (s t : TypeId) (x : Operand) {e : Env} {H : Heap} {K Kp : D → Heap → Prop} : @Eq Prop (vOpB P A (.convert s t x) e H K Kp) (outB (stepOp P A noCall (.convert s t x) e H) K Kp):=rfl
theorem vOpB_makeInterface (t : TypeId) (x : Operand) {e : Env} {H : Heap} {K Kp : D → Heap → Prop} : @Eq Prop (vOpB P A (.makeInterface t x) e H K Kp) (outB (stepOp P A noCall (.makeInterface t x) e H) K Kp):=rfl
theorem vOpB_makeFunc (f : Fn) (x y : Array Operand) {e : Env} {H : Heap} {K Kp : D → Heap → Prop} : @Eq Prop (vOpB P A (.makeFunc f x y) e H K Kp) (outB (stepOp P A noCall (.makeFunc f x y) e H) K Kp):=rfl
theorem vOpB_makeMap (t : TypeId) (r : Option Operand) {e : Env} {H : Heap} {K Kp : D → Heap → Prop} : @Eq Prop (vOpB P A (.makeMap t r) e H K Kp) (outB (stepOp P A noCall (.makeMap t r) e H) K Kp):=rfl
theorem vOpB_makeSlice (t : TypeId) (x y : Operand) {e : Env} {H : Heap} {K Kp : D → Heap → Prop} : @Eq Prop (vOpB P A (.makeSlice t x y) e H K Kp) (outB (stepOp P A noCall (.makeSlice t x y) e H) K Kp):=rfl
theorem vOpB_slice (t : TypeId) (x : Operand) (l h m : Option Operand) {e : Env} {H : Heap} {K Kp : D → Heap → Prop} : @Eq Prop (vOpB P A (.slice t x l h m) e H K Kp) (outB (stepOp P A noCall (.slice t x l h m) e H) K Kp):=rfl
theorem vOpB_fieldAddr (t : TypeId) (x : Operand) (f : Nat) {e : Env} {H : Heap} {K Kp : D → Heap → Prop} : @Eq Prop (vOpB P A (.fieldAddr t x f) e H K Kp) (outB (stepOp P A noCall (.fieldAddr t x f) e H) K Kp):=rfl
theorem vOpB_field (t : TypeId) (x : Operand) (f : Nat) {e : Env} {H : Heap} {K Kp : D → Heap → Prop} : @Eq Prop (vOpB P A (.field t x f) e H K Kp) (outB (stepOp P A noCall (.field t x f) e H) K Kp):=rfl
theorem vOpB_indexAddr (t : TypeId) (x y : Operand) {e : Env} {H : Heap} {K Kp : D → Heap → Prop} : @Eq Prop (vOpB P A (.indexAddr t x y) e H K Kp) (outB (stepOp P A noCall (.indexAddr t x y) e H) K Kp):=rfl
theorem vOpB_index (t : TypeId) (x y : Operand) {e : Env} {H : Heap} {K Kp : D → Heap → Prop} : @Eq Prop (vOpB P A (.index t x y) e H K Kp) (outB (stepOp P A noCall (.index t x y) e H) K Kp):=rfl
theorem vOpB_lookup (t : TypeId) (x y : Operand) (b : Bool) {e : Env} {H : Heap} {K Kp : D → Heap → Prop} : @Eq Prop (vOpB P A (.lookup t x y b) e H K Kp) (outB (stepOp P A noCall (.lookup t x y b) e H) K Kp):=rfl
theorem vOpB_mapUpdate (t : TypeId) (x y z : Operand) {e : Env} {H : Heap} {K Kp : D → Heap → Prop} : @Eq Prop (vOpB P A (.mapUpdate t x y z) e H K Kp) (outB (stepOp P A noCall (.mapUpdate t x y z) e H) K Kp):=rfl
theorem vOpB_typeAssert (x : Operand) (s t : TypeId) (b : Bool) {e : Env} {H : Heap} {K Kp : D → Heap → Prop} : @Eq Prop (vOpB P A (.typeAssert x s t b) e H K Kp) (outB (stepOp P A noCall (.typeAssert x s t b) e H) K Kp):=rfl
theorem vOpB_extract (x : Operand) (i : Nat) {e : Env} {H : Heap} {K Kp : D → Heap → Prop} : @Eq Prop (vOpB P A (.extract x i) e H K Kp) (outB (stepOp P A noCall (.extract x i) e H) K Kp):=rfl
theorem vOpB_panic (x : Operand) {e : Env} {H : Heap} {K Kp : D → Heap → Prop} : @Eq Prop (vOpB P A (.panic x) e H K Kp) (outB (stepOp P A noCall (.panic x) e H) K Kp):=rfl
theorem vOpB_builtin (b : Builtin) (args : Array Operand) (ts : Array TypeId) {e : Env} {H : Heap} {K Kp : D → Heap → Prop} : @Eq Prop (vOpB P A (.call ⟨.builtin b,args,ts⟩) e H K Kp) (outB (stepOp P A noCall (.call ⟨.builtin b,args,ts⟩) e H) K Kp):=rfl
def vOpZB (P : Program) (A : Ann) (o : Op) (e : Env) (H : Heap) (K : D → Heap → Prop) : TyP K:=vOpZ P A o e H K
theorem vOpZB_move (x : Operand) {e : Env} {H : Heap} {K : D → Heap → Prop} : @Eq Prop (vOpZB P A (.move x) e H K) (vOpB P A (.move x) e H K (fun _ _=>False)):=rfl
theorem vOpZB_assign (x : Operand) {e : Env} {H : Heap} {K : D → Heap → Prop} : @Eq Prop (vOpZB P A (.assign x) e H K) (vOpB P A (.assign x) e H K (fun _ _=>False)):=rfl
theorem vOpZB_pick (x y z : Operand) {e : Env} {H : Heap} {K : D → Heap → Prop} : @Eq Prop (vOpZB P A (.pick x y z) e H K) (vOpB P A (.pick x y z) e H K (fun _ _=>False)):=rfl
theorem vOpZB_alloc (t : TypeId) {e : Env} {H : Heap} {K : D → Heap → Prop} : @Eq Prop (vOpZB P A (.alloc t) e H K) (vOpB P A (.alloc t) e H K (fun _ _=>False)):=rfl
theorem vOpZB_box (t : TypeId) (x : Operand) {e : Env} {H : Heap} {K : D → Heap → Prop} : @Eq Prop (vOpZB P A (.box t x) e H K) (vOpB P A (.box t x) e H K (fun _ _=>False)):=rfl
theorem vOpZB_load (t : TypeId) (x : Operand) {e : Env} {H : Heap} {K : D → Heap → Prop} : @Eq Prop (vOpZB P A (.load t x) e H K) (vOpB P A (.load t x) e H K (fun _ _=>False)):=rfl
theorem vOpZB_store (t : TypeId) (x y : Operand) {e : Env} {H : Heap} {K : D → Heap → Prop} : @Eq Prop (vOpZB P A (.store t x y) e H K) (vOpB P A (.store t x y) e H K (fun _ _=>False)):=rfl
theorem vOpZB_nilCheck (x : Operand) {e : Env} {H : Heap} {K : D → Heap → Prop} : @Eq Prop (vOpZB P A (.nilCheck x) e H K) (vOpB P A (.nilCheck x) e H K (fun _ _=>False)):=rfl
theorem vOpZB_binOp (o : BinOp) (t : TypeId) (x y : Operand) (s : TypeId) {e : Env} {H : Heap} {K : D → Heap → Prop} : @Eq Prop (vOpZB P A (.binOp o t x y s) e H K) (vOpB P A (.binOp o t x y s) e H K (fun _ _=>False)):=rfl
theorem vOpZB_unOp (o : UnOp) (t : TypeId) (x : Operand) {e : Env} {H : Heap} {K : D → Heap → Prop} : @Eq Prop (vOpZB P A (.unOp o t x) e H K) (vOpB P A (.unOp o t x) e H K (fun _ _=>False)):=rfl
theorem vOpZB_convert (s t : TypeId) (x : Operand) {e : Env} {H : Heap} {K : D → Heap → Prop} : @Eq Prop (vOpZB P A (.convert s t x) e H K) (vOpB P A (.convert s t x) e H K (fun _ _=>False)):=rfl
theorem vOpZB_makeInterface (t : TypeId) (x : Operand) {e : Env} {H : Heap} {K : D → Heap → Prop} : @Eq Prop (vOpZB P A (.makeInterface t x) e H K) (vOpB P A (.makeInterface t x) e H K (fun _ _=>False)):=rfl
theorem vOpZB_makeFunc (f : Fn) (x y : Array Operand) {e : Env} {H : Heap} {K : D → Heap → Prop} : @Eq Prop (vOpZB P A (.makeFunc f x y) e H K) (vOpB P A (.makeFunc f x y) e H K (fun _ _=>False)):=rfl
theorem vOpZB_makeMap (t : TypeId) (r : Option Operand) {e : Env} {H : Heap} {K : D → Heap → Prop} : @Eq Prop (vOpZB P A (.makeMap t r) e H K) (vOpB P A (.makeMap t r) e H K (fun _ _=>False)):=rfl
theorem vOpZB_makeSlice (t : TypeId) (x y : Operand) {e : Env} {H : Heap} {K : D → Heap → Prop} : @Eq Prop (vOpZB P A (.makeSlice t x y) e H K) (vOpB P A (.makeSlice t x y) e H K (fun _ _=>False)):=rfl
theorem vOpZB_slice (t : TypeId) (x : Operand) (l h m : Option Operand) {e : Env} {H : Heap} {K : D → Heap → Prop} : @Eq Prop (vOpZB P A (.slice t x l h m) e H K) (vOpB P A (.slice t x l h m) e H K (fun _ _=>False)):=rfl
theorem vOpZB_fieldAddr (t : TypeId) (x : Operand) (f : Nat) {e : Env} {H : Heap} {K : D → Heap → Prop} : @Eq Prop (vOpZB P A (.fieldAddr t x f) e H K) (vOpB P A (.fieldAddr t x f) e H K (fun _ _=>False)):=rfl
theorem vOpZB_field (t : TypeId) (x : Operand) (f : Nat) {e : Env} {H : Heap} {K : D → Heap → Prop} : @Eq Prop (vOpZB P A (.field t x f) e H K) (vOpB P A (.field t x f) e H K (fun _ _=>False)):=rfl
theorem vOpZB_indexAddr (t : TypeId) (x y : Operand) {e : Env} {H : Heap} {K : D → Heap → Prop} : @Eq Prop (vOpZB P A (.indexAddr t x y) e H K) (vOpB P A (.indexAddr t x y) e H K (fun _ _=>False)):=rfl
theorem vOpZB_index (t : TypeId) (x y : Operand) {e : Env} {H : Heap} {K : D → Heap → Prop} : @Eq Prop (vOpZB P A (.index t x y) e H K) (vOpB P A (.index t x y) e H K (fun _ _=>False)):=rfl
theorem vOpZB_lookup (t : TypeId) (x y : Operand) (b : Bool) {e : Env} {H : Heap} {K : D → Heap → Prop} : @Eq Prop (vOpZB P A (.lookup t x y b) e H K) (vOpB P A (.lookup t x y b) e H K (fun _ _=>False)):=rfl
theorem vOpZB_mapUpdate (t : TypeId) (x y z : Operand) {e : Env} {H : Heap} {K : D → Heap → Prop} : @Eq Prop (vOpZB P A (.mapUpdate t x y z) e H K) (vOpB P A (.mapUpdate t x y z) e H K (fun _ _=>False)):=rfl
theorem vOpZB_typeAssert (x : Operand) (s t : TypeId) (b : Bool) {e : Env} {H : Heap} {K : D → Heap → Prop} : @Eq Prop (vOpZB P A (.typeAssert x s t b) e H K) (vOpB P A (.typeAssert x s t b) e H K (fun _ _=>False)):=rfl
theorem vOpZB_extract (x : Operand) (i : Nat) {e : Env} {H : Heap} {K : D → Heap → Prop} : @Eq Prop (vOpZB P A (.extract x i) e H K) (vOpB P A (.extract x i) e H K (fun _ _=>False)):=rfl
theorem vOpZB_panic (x : Operand) {e : Env} {H : Heap} {K : D → Heap → Prop} : @Eq Prop (vOpZB P A (.panic x) e H K) (vOpB P A (.panic x) e H K (fun _ _=>False)):=rfl
theorem vOpZB_call (c : Call) {e : Env} {H : Heap} {K : D → Heap → Prop} : @Eq Prop (vOpZB P A (.call c) e H K) (vOpB P A (.call c) e H K (fun _ _=>False)):=rfl
def zB (b : Bool) (P : Program) (A : Ann) (t : TypeId) (n : Nat) (ps : Array (Nat × Operand)) (e : Env) (H : Heap) (K : D → Heap → Prop) : TyP K:=
  if b then outB ((partsD e ps.toList).bind fun l=>(stripP l).bind fun l=>fzR (buildSliceD P t n l []) H) K (fun _ _=>False) else vOpB P A (.buildSlice t n ps) e H K (fun _ _=>False)
theorem zB_true {t : TypeId} {n : Nat} {ps : Array (Nat × Operand)} {e : Env} {H : Heap} {K : D → Heap → Prop} : @Eq Prop (zB true P A t n ps e H K) (outB ((partsD e ps.toList).bind fun l=>(stripP l).bind fun l=>fzR (buildSliceD P t n l []) H) K (fun _ _=>False)):=rfl
theorem zB_false {t : TypeId} {n : Nat} {ps : Array (Nat × Operand)} {e : Env} {H : Heap} {K : D → Heap → Prop} : @Eq Prop (zB false P A t n ps e H K) (vOpB P A (.buildSlice t n ps) e H K (fun _ _=>False)):=rfl
theorem vOpZB_buildSlice (t : TypeId) (n : Nat) (ps : Array (Nat × Operand)) {e : Env} {H : Heap} {K : D → Heap → Prop} : @Eq Prop (vOpZB P A (.buildSlice t n ps) e H K) (zB (A.fz t) P A t n ps e H K):=by
  show (if A.fz t then (match (partsD e ps.toList).bind fun l=>(stripP l).bind fun l=>fzR (buildSliceD P t n l []) H with
    | some (.ok d H')=>K d H'
    | _=>False) else vOp P A (.buildSlice t n ps) e H K (fun _ _=>False)) = zB (A.fz t) P A t n ps e H K
  generalize A.fz t = b
  cases b with
  | false=>rfl
  | true=>
    show (match (partsD e ps.toList).bind fun l=>(stripP l).bind fun l=>fzR (buildSliceD P t n l []) H with
    | some (.ok d H')=>K d H'
    | _=>False) = outB ((partsD e ps.toList).bind fun l=>(stripP l).bind fun l=>fzR (buildSliceD P t n l []) H) K (fun _ _=>False)
    generalize ((partsD e ps.toList).bind fun l=>(stripP l).bind fun l=>fzR (buildSliceD P t n l []) H) = x
    cases x with
    | none=>rfl
    | some r=>cases r <;> rfl
def fzN (b : Prop) [Decidable b] (ys : Option (List D)) (H : Heap) : Option R:=if b then ys.map fun ys=>.ok (.sl false ys) H else none
theorem fzR_vec {n : Nat} {xs : List D} {H : Heap} : fzR (some (.vec 0 0 n,[.arr xs])) H = fzN (n = xs.length) (stripL xs) H:=rfl
theorem stripP_nil : stripP [] = some []:=rfl
theorem stripP_cons {i : Nat} {d : D} {r : List (Nat × D)} : stripP ((i,d) :: r) = (strip d).bind fun d'=>(stripP r).map ((i,d') :: ·):=rfl
end
section
variable {P : Program} {A : Ann} {N : Nat} {S : List (Option Nat)} {o : Oper} {rest : List Oper} {e : Env} {H : Heap} {K : Env → Heap → Prop} {Kp : D → Env → Heap → Prop}
def vOpsC (P : Program) (A : Ann) (N : Nat) (S : List (Option Nat)) : List Oper → Env → Heap → (Env → Heap → Prop) → (D → Env → Heap → Prop) → Prop
  | [],e,H,K,_=>K e H
  | o :: rest,e,H,K,Kp=>dstOk N o.dst = true ∧ match wantG S e o.guard with
    | some true=>match deferC o.op with
      | some c=>match pushD P e c with
        | some e'=>vOpsC P A N S rest (putO e' o.dst ud) H K Kp
        | none=>False
      | none=>vOp P A o.op e H (fun d H'=>vOpsC P A N S rest (putO e o.dst d) H' K Kp) (fun d H'=>Kp d e H')
    | some false=>vOpsC P A N S rest (putO e o.dst ud) H K Kp
    | none=>False
theorem vOpsC_eq {all : List Oper} : ∀ {l : List Oper} {e : Env} {H : Heap},vOpsC P A N (all.map (·.dst)) l e H K Kp = vOps P A N all.toArray l e H K Kp
  | [],e,H=>rfl
  | o :: l,e,H=>by
    have ih : ∀ e H,vOpsC P A N (all.map (·.dst)) l e H K Kp = vOps P A N all.toArray l e H K Kp:=fun e H=>vOpsC_eq
    simp only [vOpsC,vOps,wantD_eq,ih]
    generalize wantG (all.map (·.dst)) e o.guard = w
    cases w with
    | none=>rfl
    | some b=>
      cases b with
      | false=>rfl
      | true=>
        cases deferC o.op with
        | none=>rfl
        | some c=>cases hp : pushD P e c <;> rfl
def vOpsB (P : Program) (A : Ann) (N : Nat) (S : List (Option Nat)) (l : List Oper) (e : Env) (H : Heap) (K : Env → Heap → Prop) (Kp : D → Env → Heap → Prop) : TyP (S,l,K,Kp):=vOpsC P A N S l e H K Kp
def stepsB (w : Option Bool) (dc : Option Call) (P : Program) (A : Ann) (N : Nat) (S : List (Option Nat)) (o : Oper) (rest : List Oper) (e : Env) (H : Heap) (K : Env → Heap → Prop) (Kp : D → Env → Heap → Prop) : TyP (S,o,rest,K,Kp):=
  match w with
  | some true=>match dc with
    | some c=>match pushD P e c with
      | some e'=>vOpsC P A N S rest (putO e' o.dst ud) H K Kp
      | none=>False
    | none=>vOp P A o.op e H (fun d H'=>vOpsC P A N S rest (putO e o.dst d) H' K Kp) (fun d H'=>Kp d e H')
  | some false=>vOpsC P A N S rest (putO e o.dst ud) H K Kp
  | none=>False
theorem vOpsB_nil : @Eq Prop (vOpsB P A N S [] e H K Kp) (K e H):=rfl
theorem vOpsB_cons : @Eq Prop (vOpsB P A N S (o :: rest) e H K Kp) (dstOk N o.dst = true ∧ stepsB (wantG S e o.guard) (deferC o.op) P A N S o rest e H K Kp):=rfl
theorem stepsB_run : @Eq Prop (stepsB (some true) none P A N S o rest e H K Kp) (vOpB P A o.op e H (fun d H'=>vOpsB P A N S rest (putO e o.dst d) H' K Kp) (fun d H'=>Kp d e H')):=rfl
theorem stepsB_skip {dc : Option Call} : @Eq Prop (stepsB (some false) dc P A N S o rest e H K Kp) (vOpsB P A N S rest (putO e o.dst ud) H K Kp):=rfl
def pushB (x : Option Env) (P : Program) (A : Ann) (N : Nat) (S : List (Option Nat)) (o : Oper) (rest : List Oper) (H : Heap) (K : Env → Heap → Prop) (Kp : D → Env → Heap → Prop) : TyP (S,o,rest,K,Kp):=
  match x with
  | some e'=>vOpsC P A N S rest (putO e' o.dst ud) H K Kp
  | none=>False
theorem stepsB_defer {c : Call} : @Eq Prop (stepsB (some true) (some c) P A N S o rest e H K Kp) (pushB (pushD P e c) P A N S o rest H K Kp):=rfl
theorem pushB_some {e' : Env} : @Eq Prop (pushB (some e') P A N S o rest H K Kp) (vOpsB P A N S rest (putO e' o.dst ud) H K Kp):=rfl
def neN (x y : Nat) : Prop:=x ≠ y
theorem neN_true {x y : Nat} (h : x ≠ y) : neN x y = True:=eq_true h
def disQ (x : Nat) : List Nat → Prop
  | []=>True
  | y :: ys=>neN x y ∧ disQ x ys
def disP : List Nat → List Nat → Prop
  | [],_=>True
  | x :: xs,ys=>disQ x ys ∧ disP xs ys
def pairsP (e : Env) : List (List Nat × List Nat) → Prop
  | []=>True
  | p :: r=>disP (objsE e p.1) (objsE e p.2) ∧ pairsP e r
theorem disQ_nil {x : Nat} : disQ x [] = True:=rfl
theorem disQ_cons {x y : Nat} {ys : List Nat} : disQ x (y :: ys) = (neN x y ∧ disQ x ys):=rfl
theorem disP_nil {ys : List Nat} : disP [] ys = True:=rfl
theorem disP_cons {x : Nat} {xs ys : List Nat} : disP (x :: xs) ys = (disQ x ys ∧ disP xs ys):=rfl
theorem pairsP_nil : pairsP e [] = True:=rfl
theorem pairsP_cons {a b : List Nat} {r : List (List Nat × List Nat)} : pairsP e ((a,b) :: r) = (disP (objsE e a) (objsE e b) ∧ pairsP e r):=rfl
theorem objsE_nil : objsE e [] = []:=rfl
theorem objsE_cons {t : Nat} {l : List Nat} : objsE e (t :: l) = objsD (e t) ++ objsE e l:=rfl
theorem disQ_iff {x : Nat} : ∀ {ys : List Nat},disQ x ys ↔ ∀ y ∈ ys,x ≠ y
  | []=>by simp [disQ]
  | y :: ys=>by simp [disQ,neN,disQ_iff]
theorem disP_iff : ∀ {xs ys : List Nat},disP xs ys ↔ ∀ x ∈ xs,∀ y ∈ ys,x ≠ y
  | [],ys=>by simp [disP]
  | x :: xs,ys=>by simp [disP,disQ_iff,disP_iff]
theorem pairsP_iff : ∀ {prs : List (List Nat × List Nat)},pairsP e prs ↔ prs.all (disjE e) = true
  | []=>by simp [pairsP]
  | p :: r=>by
    simp only [pairsP,List.all_cons,Bool.and_eq_true,disP_iff,pairsP_iff,disjE,List.all_eq_true,bne_iff_ne]
theorem objsD_ptr {r i j : Nat} : objsD (.ptr r i j) = [r]:=rfl
theorem objsD_vec {r i j : Nat} : objsD (.vec r i j) = [r]:=rfl
theorem objsD_map {r : Nat} : objsD (.map r) = [r]:=rfl
theorem objsD_bool {b : Bool} : objsD (.bool b) = []:=rfl
theorem objsD_int {k : IntKind} {n : Int} : objsD (.int k n) = []:=rfl
theorem objsD_str {s : List UInt8} : objsD (.str s) = []:=rfl
theorem objsD_nilp : objsD .nilp = []:=rfl
theorem objsD_ept {x : D} {j : Nat} : objsD (.ept x j) = []:=rfl
theorem objsD_sl {f : Bool} {xs : List D} : objsD (.sl f xs) = []:=rfl
theorem objsD_nilm : objsD .nilm = []:=rfl
theorem objsD_agg {l : List D} : objsD (.agg l) = []:=rfl
theorem objsD_tup {l : List D} : objsD (.tup l) = []:=rfl
theorem objsD_nili : objsD .nili = []:=rfl
theorem objsD_niln : objsD .niln = []:=rfl
theorem objsD_ud : objsD ud = []:=rfl
theorem appPlain_two {x y : D} : appPlain H [x,y] = plainEl H y:=rfl
def plainM (xs : Option (List D)) : Bool:=(xs.bind stripL).isSome
theorem plainEl_str {s : List UInt8} : plainEl H (.str s) = true:=rfl
theorem plainEl_sl {f : Bool} {xs : List D} : plainEl H (.sl f xs) = (stripL xs).isSome:=rfl
theorem plainEl_vec {r o n : Nat} : plainEl H (.vec r o n) = plainM (elems H (.vec r o n)):=rfl
theorem plainM_some {xs : List D} : plainM (some xs) = (stripL xs).isSome:=rfl
def vOpsXC (P : Program) (A : Ann) (N : Nat) (S : List (Option Nat)) (prs : List (List Nat × List Nat)) : List Oper → Env → Heap → (Env → Heap → Prop) → Prop
  | [],e,H,K=>pairsP e prs ∧ K e H
  | o :: rest,e,H,K=>dstOk N o.dst = true ∧ match wantG S e o.guard with
    | some true=>vOpX A o.op e H (fun _ _=>True) ∧ vOpZ P A o.op e H (fun d H'=>vOpsXC P A N S prs rest (putO e o.dst d) H' K)
    | some false=>vOpsXC P A N S prs rest (putO e o.dst ud) H K
    | none=>False
theorem vOpsXC_eq {all : List Oper} : ∀ {l : List Oper} {e : Env} {H : Heap},vOpsXC P A N (all.map (·.dst)) (pairsD A all.toArray) l e H K = vOpsX P A N all.toArray l e H K
  | [],e,H=>by simp only [vOpsXC,vOpsX,pairsP_iff]
  | o :: l,e,H=>by
    have ih : ∀ e H,vOpsXC P A N (all.map (·.dst)) (pairsD A all.toArray) l e H K = vOpsX P A N all.toArray l e H K:=fun e H=>vOpsXC_eq
    simp only [vOpsXC,vOpsX,wantD_eq,ih]
    generalize wantG (all.map (·.dst)) e o.guard = w
    cases w with
    | none=>rfl
    | some b=>cases b <;> rfl
def vOpsXB (P : Program) (A : Ann) (N : Nat) (S : List (Option Nat)) (prs : List (List Nat × List Nat)) (l : List Oper) (e : Env) (H : Heap) (K : Env → Heap → Prop) : TyP (S,prs,l,K):=vOpsXC P A N S prs l e H K
def stepsXB (w : Option Bool) (P : Program) (A : Ann) (N : Nat) (S : List (Option Nat)) (prs : List (List Nat × List Nat)) (o : Oper) (rest : List Oper) (e : Env) (H : Heap) (K : Env → Heap → Prop) : TyP (S,prs,o,rest,K):=
  match w with
  | some true=>vOpX A o.op e H (fun _ _=>True) ∧ vOpZ P A o.op e H (fun d H'=>vOpsXC P A N S prs rest (putO e o.dst d) H' K)
  | some false=>vOpsXC P A N S prs rest (putO e o.dst ud) H K
  | none=>False
theorem vOpsXB_nil {prs : List (List Nat × List Nat)} : @Eq Prop (vOpsXB P A N S prs [] e H K) (pairsP e prs ∧ K e H):=rfl
theorem vOpsXB_cons {prs : List (List Nat × List Nat)} : @Eq Prop (vOpsXB P A N S prs (o :: rest) e H K) ((dstOk N o.dst = true ∧ stepsXB (wantG S e o.guard) P A N S prs o rest e H K)):=rfl
def plainX (A : Ann) (o : Op) (e : Env) (H : Heap) : Prop:=
  match o with
  | .call c=>match c.callee with
    | .value (.func f)=>match evalOs e c.args.toList with
      | some args=>(pureC A f || freshC A f) = true → (stripL args).isSome = true
      | none=>False
    | .builtin .append=>match evalOs e c.args.toList with
      | some args=>appPlain H args = true
      | none=>False
    | _=>True
  | _=>True
theorem plainX_of {o : Op} {e : Env} {H : Heap} : @Eq Prop (vOpX A o e H (fun _ _=>True)) (plainX A o e H):=by
  cases o <;> try rfl
  rename_i c
  obtain ⟨cl,as,ts⟩:=c
  cases cl with
  | value f=>
    cases f <;> try rfl
    rename_i g
    show (match evalOs e as.toList with
      | some args=>(pureC A g || freshC A g) = true → (stripL args).isSome = true ∧ True
      | none=>False) = (match evalOs e as.toList with
      | some args=>(pureC A g || freshC A g) = true → (stripL args).isSome = true
      | none=>False)
    cases evalOs e as.toList <;> simp
  | builtin b=>cases b <;> rfl
  | invoke x y=>rfl
theorem stepsXB_run {prs : List (List Nat × List Nat)} : @Eq Prop (stepsXB (some true) P A N S prs o rest e H K) ((plainX A o.op e H ∧ vOpZB P A o.op e H (fun d H'=>vOpsXB P A N S prs rest (putO e o.dst d) H' K))):=by
  unfold stepsXB
  simp only [plainX_of]
  rfl
theorem stepsXB_skip {prs : List (List Nat × List Nat)} : @Eq Prop (stepsXB (some false) P A N S prs o rest e H K) (vOpsXB P A N S prs rest (putO e o.dst ud) H K):=rfl
end
section
variable {P : Program} {A : Ann} {N : Nat}
theorem wpB_regionL {id : Nat} {l : List Oper} {S : List (Option Nat)} {e : Env} {H : Heap} {Q : Ex → Env → Heap → Prop} (hS : l.map (·.dst) = S) (h : vOpsB P A N S l e H (fun e H=>Q .norm e H) (fun d e H=>Q (.pan d) e H)) : WpB P A N (.region id l.toArray false) e H Q:=by
  subst hS
  have h' : vOps P A N l.toArray l e H (fun e H=>Q .norm e H) (fun d e H=>Q (.pan d) e H):=by rw [← vOpsC_eq];exact h
  exact wpc_region (by simpa using h')
theorem wpB_regionXL {id : Nat} {l : List Oper} {S : List (Option Nat)} {e : Env} {H : Heap} {Q : Ex → Env → Heap → Prop} (hl : lexD A l.toArray = true) {prs : List (List Nat × List Nat)} (hS : l.map (·.dst) = S) (hp : pairsD A l.toArray = prs) (h : vOpsXB P A N S prs l e H (fun e H=>Q .norm e H)) : WpB P A N (.region id l.toArray true) e H Q:=by
  subst hS hp
  have h' : vOpsX P A N l.toArray l e H (fun e H=>Q .norm e H):=by rw [← vOpsXC_eq];exact h
  exact wpc_regionX hl (by simpa using h')
theorem wpB_seq {a b : Code} {e : Env} {H : Heap} {Q : Ex → Env → Heap → Prop} (h : WpB P A N a e H (SeqQ (fun e H=>WpB P A N b e H Q) Q)) : WpB P A N (.seq a b) e H Q:=wpc_seq h
theorem wpB_block {id : Nat} {b : Code} {e : Env} {H : Heap} {Q : Ex → Env → Heap → Prop} (h : WpB P A N b e H (BlkQ id (fun e H=>Q .norm e H) Q)) : WpB P A N (.block id b) e H Q:=wpc_block h
theorem wpB_skip {e : Env} {H : Heap} {Q : Ex → Env → Heap → Prop} (h : Q .norm e H) : WpB P A N .skip e H Q:=wpc_skip h
theorem wpB_exit {id : Nat} {e : Env} {H : Heap} {Q : Ex → Env → Heap → Prop} (h : Q (.exit id) e H) : WpB P A N (.exit id) e H Q:=wpc_exit h
theorem wpB_ret {e : Env} {H : Heap} {Q : Ex → Env → Heap → Prop} (h : Q .ret e H) : WpB P A N .ret e H Q:=wpc_ret h
theorem wpB_cond {c : Operand} {x y : Code} {b : Bool} {e : Env} {H : Heap} {Q : Ex → Env → Heap → Prop} (hc : evalO e c = some (.bool b)) (ht : b = true → WpB P A N x e H Q) (hf : b = false → WpB P A N y e H Q) : WpB P A N (.cond c x y) e H Q:=wpc_cond hc ht hf
theorem wpB_loop {e : Env} {H : Heap} {Q : Ex → Env → Heap → Prop} {b : Code} (I : Env → Heap → Prop) (μ : Env → Heap → Nat) (h0 : I e H) (hstep : ∀ e H,I e H → ∀ R : Env → Heap → Prop,(∀ e' H',I e' H' → μ e' H' < μ e H → R e' H') → WpB P A N b e H (SeqQ R Q)) : WpB P A N (.loop b) e H Q:=
  wpc_loop I μ h0 fun e H hI=>hstep e H hI _ fun e' H' h1 h2=>⟨h1,h2⟩
theorem wpB_mid {e : Env} {H : Heap} {Q : Ex → Env → Heap → Prop} {a b : Code} (I : Env → Heap → Prop) (h : ∀ R : Env → Heap → Prop,(∀ e' H',I e' H' → R e' H') → WpB P A N a e H (SeqQ R Q)) (k : ∀ e H,I e H → WpB P A N b e H Q) : WpB P A N (.seq a b) e H Q:=
  wpc_mid I (h _ fun e' H' h=>h) k
theorem evF_inB {f : FuncId} {fn : Func} {c : Code} {n : Nat} {rs : List ResultVar} {args : List D} {H : Heap} {K Kp : D → Heap → Prop} (hf : P.funcs[f]? = some fn) (hb : fn.body = some c) (hn : (fn.name == "runtime.NumGoroutine") = false) (hN : fn.ntmps = n) (hr : fn.results.toList = rs) (hc : calmC c = true) (ha : Nat.ble args.length n = true)
    (h : WpB P A n c (ofArgs args) H (RetQ P rs K Kp)) : EvF P A f args H K Kp:=evF_in hf hb hn hN hr hc ha h
theorem evF_leaveB {f : FuncId} {fn : Func} {c : Code} {n : Nat} {rs : List ResultVar} {args : List D} {H : Heap} {K Kp : D → Heap → Prop} (hf : P.funcs[f]? = some fn) (hb : fn.body = some c) (hn : (fn.name == "runtime.NumGoroutine") = false) (hN : fn.ntmps = n) (hr : fn.results.toList = rs) (ha : Nat.ble args.length n = true)
    (h : WpB P A n c (ofArgs args) H (LeaveQ P A rs K Kp)) : EvF P A f args H K Kp:=evF_leave hf hb hn hN hr ha h
theorem evB_state {f : FuncId} {args : List D} {H : Heap} {K Kp K' Kp' : D → Heap → Prop} (hb : bodied P f = true) (hp : primQ A f = false) (hm : A.mode f = .state) (h : EvF P A f args H K' Kp') (h1 : ∀ d H',K' d H' → PP (K d H')) (h2 : ∀ d H',Kp' d H' → PP (Kp d H')) : EvB P A f args H K Kp:=evC_state hb hp hm (h.mono h1 h2)
theorem evB_plain {f : FuncId} {args : List D} {d : D} {H : Heap} {K Kp : D → Heap → Prop} (hb : bodied P f = true) (hp : primQ A f = false) (hm : A.mode f = .pure) (ha : stripL args = some args) (h : PureF P A f args d) (k : PP (K d H)) : EvB P A f args H K Kp:=evC_plain hb hp hm ha h k
theorem evB_pure {f : FuncId} {args as : List D} {d : D} {H H' : Heap} {K Kp : D → Heap → Prop} (hb : bodied P f = true) (hp : primQ A f = false) (hm : A.mode f = .pure) (ha : pures H args = some (as,H')) (h : PureF P A f as d) (k : PP (K d (if flat d then H else H'))) : EvB P A f args H K Kp:=evC_pure hb hp hm ha h k
theorem evB_prim {f : FuncId} {args : List D} {d : D} {H H' : Heap} {p : List D → Heap → Option R} {K Kp : D → Heap → Prop} (hb : bodied P f = true) (hp : A.prim f = some p) (h : p args H = some (.ok d H')) (k : PP (K d H')) (h0 : A.rd f = none:=by rfl) : EvB P A f args H K Kp:=
  ⟨0,.ok d H',by simp only [callD,hb,Bool.true_eq_false,if_false,h0,hp];exact h,k⟩
theorem evB_rd {f : FuncId} {args : List D} {d : D} {H : Heap} {g : List D → List Ob → Option D} {K Kp : D → Heap → Prop} (hb : bodied P f = true) (hp : A.rd f = some g) (h : g args ((args.flatMap objsD).map (hget H)) = some d) (k : PP (K d H)) : EvB P A f args H K Kp:=
  ⟨0,.ok d H,by simp only [callD,hb,Bool.true_eq_false,if_false,hp,rdD,h];rfl,k⟩
end
attribute [irreducible] pairsP disP disQ neN plainM
attribute [go_sem] disQ_nil disQ_cons disP_nil disP_cons pairsP_nil pairsP_cons objsE_nil objsE_cons objsD_ptr objsD_vec objsD_map objsD_bool objsD_int objsD_str objsD_nilp objsD_ept objsD_sl objsD_nilm objsD_agg objsD_tup objsD_nili objsD_niln objsD_ud neN_true appPlain_two plainEl_str plainEl_sl plainEl_vec plainM_some
attribute [irreducible] zB vOpZB WpB EvB EvFB vOpsB vOpsXB vOpB outB callB stepsB stepsXB pushB
attribute [go_sem ↓] pp_eq vOpZB_call zB_true zB_false vOpB_call vOpsB_nil vOpsB_cons stepsB_run stepsB_skip stepsB_defer pushB_some vOpsXB_nil vOpsXB_cons stepsXB_run stepsXB_skip outB_ok outB_pan outB_none
attribute [go_sem] wantG_none wantG_some wantS_some wantV_ud wantV_bool slotL_zero slotL_succ outB_ok outB_pan outB_none callB_fn callB_bfn callB_yld vOpsB_nil vOpsB_cons vOpB_move vOpB_assign vOpB_pick vOpB_alloc vOpB_box vOpB_build vOpB_buildSlice vOpB_load vOpB_store vOpB_nilCheck vOpB_binOp vOpB_unOp vOpB_convert vOpB_makeInterface vOpB_makeFunc vOpB_makeMap vOpB_makeSlice vOpB_slice vOpB_fieldAddr vOpB_field vOpB_indexAddr vOpB_index vOpB_lookup vOpB_mapUpdate vOpB_typeAssert vOpB_extract vOpB_panic vOpB_builtin vOpB_call stepsB_run stepsB_skip stepsB_defer pushB_some vOpsXB_nil vOpsXB_cons stepsXB_run stepsXB_skip plainX
attribute [go_sem] vOpZB_move vOpZB_assign vOpZB_pick vOpZB_alloc vOpZB_box vOpZB_load vOpZB_store vOpZB_nilCheck vOpZB_binOp vOpZB_unOp vOpZB_convert vOpZB_makeInterface vOpZB_makeFunc vOpZB_makeMap vOpZB_makeSlice vOpZB_slice vOpZB_fieldAddr vOpZB_field vOpZB_indexAddr vOpZB_index vOpZB_lookup vOpZB_mapUpdate vOpZB_typeAssert vOpZB_extract vOpZB_panic vOpZB_call vOpZB_buildSlice fzR_vec stripP_nil stripP_cons
end Vm
end
section
namespace Vm
open Go
def Same (m : Nat) (H H' : Heap) : Prop:=H.length ≤ H'.length ∧ ∀ k,k < m → hget H' k = hget H k
theorem Same.refl {m : Nat} {H : Heap} : Same m H H:=⟨Nat.le_refl _,fun _ _=>rfl⟩
theorem Same.trans {m : Nat} {H H' H'' : Heap} (h : Same m H H') (g : Same m H' H'') : Same m H H'':=⟨Nat.le_trans h.1 g.1,fun k hk=>by rw [g.2 k hk,h.2 k hk]⟩
theorem Same.app {m : Nat} {H L : Heap} (h : m ≤ H.length) : Same m H (H ++ L):=⟨by simp,fun k hk=>hget_app_lt (by omega)⟩
theorem Same.set {m r : Nat} {H : Heap} {o : Ob} (h : m ≤ r) : Same m H (H.set r o):=⟨by simp,fun k hk=>hget_set_ne (by omega)⟩
theorem Same.le {m n : Nat} {H H' : Heap} (h : Same m H H') (hn : n ≤ m) : Same n H H':=⟨h.1,fun k hk=>h.2 k (by omega)⟩
def VecAt (m : Nat) (d : D) (H : Heap) (xs : List D) : Prop:=
  m ≤ H.length ∧ ((xs = [] ∧ d = .sl true []) ∨ (xs ≠ [] ∧ ∃ r,m ≤ r ∧ r < H.length ∧ d = .vec r 0 xs.length ∧ hget H r = .arr xs))
theorem VecAt.nil {m : Nat} {H : Heap} (h : m ≤ H.length) : VecAt m (.sl true []) H []:=⟨h,.inl ⟨rfl,rfl⟩⟩
theorem VecAt.app {m : Nat} {d : D} {H L : Heap} {xs : List D} (h : VecAt m d H xs) : VecAt m d (H ++ L) xs:=by
  obtain ⟨h0,h | ⟨h1,r,h2,h3,h4,h5⟩⟩:=h
  · exact ⟨by simp;omega,.inl h⟩
  · exact ⟨by simp;omega,.inr ⟨h1,r,h2,by simp;omega,h4,by rw [hget_app_lt h3,h5]⟩⟩
theorem VecAt.setLow {m k : Nat} {o : Ob} {d : D} {H : Heap} {xs : List D} (h : VecAt m d H xs) (hk : k < m) : VecAt m d (H.set k o) xs:=by
  obtain ⟨h0,h | ⟨h1,r,h2,h3,h4,h5⟩⟩:=h
  · exact ⟨by simpa using h0,.inl h⟩
  · exact ⟨by simpa using h0,.inr ⟨h1,r,h2,by simpa using h3,h4,by rw [hget_set_ne (by omega),h5]⟩⟩
theorem VecAt.cases {m : Nat} {d : D} {H : Heap} {xs : List D} (h : VecAt m d H xs) (hx : xs ≠ []) : ∃ r,m ≤ r ∧ r < H.length ∧ d = .vec r 0 xs.length ∧ hget H r = .arr xs:=by
  obtain ⟨h0,h | ⟨h1,h2⟩⟩:=h
  · exact absurd h.1 hx
  · exact h2
theorem VecAt.one {m : Nat} {d : D} {H : Heap} {xs : List D} (h : VecAt m d H xs) : d.cells = [d] ∧ aggQ d = false ∧ noTup d = true:=by
  obtain ⟨h0,h | ⟨h1,r,h2,h3,h4,h5⟩⟩:=h
  · rw [h.2];exact ⟨rfl,rfl,rfl⟩
  · rw [h4];exact ⟨rfl,rfl,rfl⟩
theorem VecAt.is {m : Nat} {d : D} {H : Heap} {xs : List D} (h : VecAt m d H xs) : VecIs d H xs:=by
  obtain ⟨h0,h | ⟨h1,r,h2,h3,h4,h5⟩⟩:=h
  · exact .inl h
  · exact .inr ⟨h1,r,h4,h5,h3⟩
theorem VecAt.out {m : Nat} {d : D} {H : Heap} {xs : List D} (h : VecAt m d H xs) (hs : stripL xs = some xs) : outPure H d = some (.sl false xs):=h.is.out hs
theorem VecAt.store {m r i : Nat} {H : Heap} {xs : List D} {x : D} (hm : m ≤ r) (hr : r < H.length) (hi : i < xs.length) : VecAt m (.vec r 0 xs.length) (H.set r (.arr (xs.set i x))) (xs.set i x):=
  ⟨by simp;omega,.inr ⟨fun h=>by have:=congrArg List.length h;simp at this;subst this;simp at hi,r,hm,by simpa using hr,by simp,hget_set_eq hr⟩⟩
theorem vecSize_of {H : Heap} {r n : Nat} {xs : List D} (h : hget H r = .arr xs) (hx : xs ≠ []) (hs : headSize n xs = true) : vecSize H r n = true:=by
  unfold vecSize
  rw [h]
  cases xs with
  | nil=>exact absurd rfl hx
  | cons x l=>exact hs
theorem VecAt.append {P : Program} {t e : TypeId} {n w m : Nat} {z d q : D} {H : Heap} {xs : List D} (he : elemT P t = some e) (hn : sizeT P e = some n) (hw : bytesT P e = some w) (hz : zeroT P e = some z) (hzn : z.cells.length = n) (hw0 : w ≠ 0)
    (h : VecAt m d H xs) (hq : q.cells.length = n) (hs : strip q = some q) (hx : headSize n xs = true) (hm : (xs.length + 1) * w ≤ 140737488355328) :
    ∃ d' H',appendD P t (H ++ [Ob.arr [q]]) d (.vec H.length 0 1) = some (d',H') ∧ VecAt m d' H' (xs ++ [q]) ∧ Same m H H':=by
  have hadd : addedD (H ++ [Ob.arr [q]]) (.vec H.length 0 1) = some ([q],H ++ [Ob.arr [q]]):=by
    have : pures (H ++ [Ob.arr [q]]) [q] = some ([q],H ++ [Ob.arr [q]]):=pures_strip (by simp [stripL,hs])
    simp [addedD,elems,hget_app0,hget_cons0,this,puresA,nilE_strip hs]
  have hqs : headSize n [q] = true:=by simp [headSize,hq]
  obtain ⟨h0,⟨rfl,rfl⟩ | ⟨h1,r,h2,h4,rfl,h3⟩⟩:=h
  · refine ⟨.vec (H.length + 1) 0 1,H ++ [Ob.arr [q]] ++ [Ob.arr [q]],?_,⟨by simp;omega,.inr ⟨by simp,H.length + 1,by omega,by simp,rfl,?_⟩⟩,⟨by simp;try omega,fun k hk=>?_⟩⟩
    · simp only [appendD,he,hn,hw,hz,Option.bind_some,hadd,hzn]
      simp [hw0,hqs,headSize,mostBytes]
      exact ⟨hq,by simpa using hm⟩
    · have:=hget_app0 (H:=H ++ [Ob.arr [q]]) (L:=[Ob.arr [q]])
      simp only [List.length_append,List.length_cons,List.length_nil,Nat.zero_add] at this
      rw [this];rfl
    · rw [List.append_assoc,hget_app_lt (by omega)]
  · have hg : hget (H ++ [Ob.arr [q]]) r = .arr xs:=by rw [hget_app_lt h4,h3]
    have hne : xs.isEmpty = false:=by simpa using h1
    refine ⟨.vec (H.length + 1) 0 (xs.length + 1),(H ++ [Ob.arr [q]]).set r Ob.dead ++ [Ob.arr (xs ++ [q])],?_,⟨by simp;omega,.inr ⟨by simp,H.length + 1,by omega,by simp,by simp,?_⟩⟩,⟨by simp;try omega,fun k hk=>?_⟩⟩
    · simp only [appendD,he,hn,hw,hz,Option.bind_some,hadd,hzn]
      simp [hw0,hqs,hg,hx,hne,hm,mostBytes]
    · have:=hget_app0 (H:=(H ++ [Ob.arr [q]]).set r Ob.dead) (L:=[Ob.arr (xs ++ [q])])
      simp only [List.length_set,List.length_append,List.length_cons,List.length_nil,Nat.zero_add] at this
      rw [this];rfl
    · rw [hget_app_lt (by simp;omega),hget_set_ne (by omega),hget_app_lt (by omega)]
theorem pur_vec {k r o n : Nat} {H : Heap} : pur (k + 1) H (.vec r o n) = (match hget H r with
    | .arr xs=>if o + n ≤ xs.length then (purL (pur k) (H.set r (.fro xs)) ((xs.drop o).take n)).map fun (l,H)=>(.sl false l,H) else none
    | .fro xs=>if o + n ≤ xs.length then (purL (pur k) H ((xs.drop o).take n)).map fun (l,H)=>(.sl false l,H) else none
    | _=>none):=rfl
theorem pur_tup {k : Nat} {cs : List D} {H : Heap} (h : stripL cs = none) : pur (k + 1) H (.tup cs) = (purL (pur k) H cs).map fun (l,H)=>(.tup l,H):=by
  conv=>lhs;unfold Vm.pur
  simp only [strip,h,Option.map_none]
theorem VecAt.pur {m k : Nat} {d : D} {H : Heap} {xs : List D} (h : VecAt m d H xs) (hs : stripL xs = some xs) : ∃ H',Vm.pur (k + 2) H d = some (.sl false xs,H'):=by
  obtain ⟨h0,⟨rfl,rfl⟩ | ⟨h1,r,h2,h3,rfl,h4⟩⟩:=h
  · exact ⟨H,rfl⟩
  · refine ⟨H.set r (.fro xs),?_⟩
    rw [pur_vec,h4]
    simp only [Nat.zero_add,Nat.le_refl,if_true,List.drop_zero,List.take_length]
    rw [purL_strip hs];rfl
theorem pur_strip {k : Nat} {H : Heap} {d : D} (h : strip d = some d) : pur (k + 1) H d = some (d,H):=by unfold Vm.pur;rw [h]
end Vm
end
