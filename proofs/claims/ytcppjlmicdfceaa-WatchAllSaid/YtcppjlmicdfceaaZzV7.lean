/- The plain operations in the model. -/
import Derived.Test.YtcppjlmicdfceaaZzV6
import Derived.RangeFuncLeaves
import Derived.RangeFuncRecord
import Derived.OrdersIn
import Derived.RecoverIn
set_option linter.unusedVariables false
set_option linter.unusedSimpArgs false
namespace Vm
open Go Go.RowKit

structure Mv (ρ : Rho) (im : Im) (H : Heap) (w : World) (ρ' : Rho) (im' : Im) (H' : Heap) (w' : World) : Prop where
  rel : Rel ρ' im' H' w'
  le : ImLe im im'
  tr : Tr ρ H w ρ' H' w'
  nu : ∀ b o v, im' b o = some v → im b o = some v ∨ w.heap.size ≤ b ∨ ∃ r, r < H.length ∧ live (hget H r) ∧ (ρ r).b = b
theorem Mv.refl {ρ : Rho} {im : Im} {H : Heap} {w : World} (h : Rel ρ im H w) : Mv ρ im H w ρ im H w := ⟨h, ImLe.refl _, Tr.refl _ _ _, fun _ _ _ h => .inl h⟩
theorem Mv.trans {ρ ρ1 ρ2 : Rho} {im im1 im2 : Im} {H H1 H2 : Heap} {w w1 w2 : World} (h : Mv ρ im H w ρ1 im1 H1 w1) (k : Mv ρ1 im1 H1 w1 ρ2 im2 H2 w2) : Mv ρ im H w ρ2 im2 H2 w2 :=
  ⟨k.rel, h.le.trans k.le, h.tr.trans k.tr, fun b o v hv => by
    rcases k.nu b o v hv with h1 | h1 | ⟨s, hs, hl, e⟩
    · exact h.nu b o v h1
    · exact .inr (.inl (Nat.le_trans h.tr.size h1))
    · rcases Nat.lt_or_ge b w.heap.size with hb | hb
      · obtain ⟨s', hs', hl', e'⟩ := h.tr.own s hs hl (by omega)
        exact .inr (.inr ⟨s', hs', hl', by omega⟩)
      · exact .inr (.inl hb)⟩
theorem Mv.rep {ρ ρ1 : Rho} {im im1 : Im} {H H1 : Heap} {w w1 : World} (h : Mv ρ im H w ρ1 im1 H1 w1) {v : Value} {d : D} (k : Rep ρ H.length im v d) : Rep ρ1 H1.length im1 v d := k.mono h.tr.ext h.tr.len h.le
theorem Mv.repA {ρ ρ1 : Rho} {im im1 : Im} {H H1 : Heap} {w w1 : World} (h : Mv ρ im H w ρ1 im1 H1 w1) {v : List Value} {d : List D} (k : RepA ρ H.length im v d) : RepA ρ1 H1.length im1 v d := k.mono h.tr.ext h.tr.len h.le

inductive OutR (ρ : Rho) (im : Im) (H : Heap) (w : World) : R → Ending → World → Prop
  | ok (ρ' : Rho) (im' : Im) (H' : Heap) (w' : World) (v : Value) (d : D) (hm : Mv ρ im H w ρ' im' H' w') (hv : Rep ρ' H'.length im' v d) : OutR ρ im H w (.ok d H') (.returned v) w'
  | pan (ρ' : Rho) (im' : Im) (H' : Heap) (w' : World) (v : Value) (d : D) (hm : Mv ρ im H w ρ' im' H' w') (hv : Rep ρ' H'.length im' v d) : OutR ρ im H w (.pan d H') (.panicked [{ v, recovered := false }]) w'

/-- all frames, of functions or of rounds -/
def FW (ro : Option Nat) : Fence := { Fence.wide with round := ro }
theorem fw_none : FW none = Fence.wide := rfl
theorem fw_depth {ro : Option Nat} {n : Nat} : (FW ro).depth.isSome = true → 1 ≤ n := fun h => by simp [FW, Fence.wide] at h

structure EnvR (ρ : Rho) (n : Nat) (im : Im) (N : Nat) (a : Act) (e : Env) : Prop where
  size : a.tmps.size = N
  get : ∀ i, Rep ρ n im (a.tmps.getD i undef) (e i)

section
variable {P : Program} {ρ : Rho} {im : Im} {H : Heap} {w : World} {N n : Nat} {a : Act} {e : Env}
theorem evalO_rep (he : EnvR ρ n im N a e) {o : Operand} {d : D} (h : evalO e o = some d) : Rep ρ n im (a.eval o) d := by
  cases o with
  | tmp t => simp [evalO] at h; subst h; exact he.get t
  | const v => exact ofV_rep h
  | global g => simp [evalO] at h
  | func f => simp [evalO] at h; subst h; exact .fn f [] [] .nil
theorem evalOs_rep (he : EnvR ρ n im N a e) : ∀ {l : List Operand} {ds : List D}, evalOs e l = some ds → RepA ρ n im (l.map a.eval) ds
  | [], ds, h => by simp [evalOs] at h; subst h; exact .nil
  | o :: r, ds, h => by
    simp only [evalOs] at h
    cases h0 : evalO e o with
    | none => simp [h0] at h
    | some d =>
      cases h1 : evalOs e r with
      | none => simp [h0, h1] at h
      | some es => simp [h0, h1] at h; subst h; exact .cons _ _ _ _ (evalO_rep he h0) (evalOs_rep he h1)
theorem EnvR.mono {ρ' : Rho} {n' : Nat} {im' : Im} (he : EnvR ρ n im N a e) (h1 : ∀ r, r < n → ρ' r = ρ r) (h2 : n ≤ n') (h3 : ImLe im im') : EnvR ρ' n' im' N a e :=
  ⟨he.size, fun i => (he.get i).mono h1 h2 h3⟩
theorem Mv.env {ρ1 : Rho} {im1 : Im} {H1 : Heap} {w1 : World} (h : Mv ρ im H w ρ1 im1 H1 w1) (he : EnvR ρ H.length im N a e) : EnvR ρ1 H1.length im1 N a e := he.mono h.tr.ext h.tr.len h.le
theorem EnvR.put (he : EnvR ρ n im N a e) {i : Option Nat} {v : Value} {d : D} (hi : dstOk N i = true) (hv : Rep ρ n im v d) : EnvR ρ n im N (a.put i v) (putO e i d) := by
  cases i with
  | none => exact he
  | some i =>
    simp only [dstOk, decide_eq_true_eq] at hi
    refine ⟨by simp [Act.put, he.size], fun j => ?_⟩
    simp only [Act.put, putO, Vm.put]
    by_cases hj : j = i
    · subst hj
      simpa [Array.getD_eq_getD_getElem?, he.size, hi] using hv
    · have := he.get j
      simpa [Array.getD_eq_getD_getElem?, Array.getElem?_setIfInBounds_ne (Ne.symm hj), hj] using this
theorem rep_ud : Rep ρ n im undef ud := .tup [] [] .nil

/-- what is asked of an operation -/
def OpOk (P : Program) (ρ : Rho) (im : Im) (H : Heap) (w : World) (a : Act) (o : Oper) (r : R) : Prop :=
  ∀ (ro : Option Nat) (n : Nat) (K : Act → World → Prop) (Q : Exit → Act → World → Prop),
    (∀ v w', OutR ρ im H w r (.returned v) w' → K (a.put o.dst v) w') → (∀ ch w', OutR ρ im H w r (.panicked ch) w' → Q (.panic ch) a w') → o.wpIn (FW ro) n P a w K Q
theorem nodefer {ρ : Operand → Value} {o : Oper} {w w' : World} {x : Next} (h : (execOp ρ o).run P w = .ok x w') (hx : ∀ d, x ≠ .defer d) : ∀ c, o.op ≠ .defer c := by
  intro c hc
  simp only [execOp, hc, Sem.run_bind] at h
  cases hr : (resolve ρ c o.type).run P w with
  | ok d w1 =>
    simp [hr] at h
    exact hx d h.1.symm
  | halt _ _ => simp [hr] at h
theorem wpIn_run {o : Oper} {w w' : World} {x : Next} {ro : Option Nat} {n : Nat} {K : Act → World → Prop} {Q : Exit → Act → World → Prop} (h : (execOp a.eval o).run P w = .ok x w') (hx : ∀ d, x ≠ .defer d) (hu : o.uponIn (FW ro) n P a K Q (.ok x w')) :
    o.wpIn (FW ro) n P a w K Q := by
  refine ⟨fun f _ => trivial, ?_⟩
  rw [Oper.semAt_eq _ _ _ (nodefer h hx), h]
  exact hu
theorem opOk_value {o : Oper} {v : Value} {d : D} {ρ' : Rho} {im' : Im} {H' : Heap} {w' : World} (h : (execOp a.eval o).run P w = .ok (.value v) w') (hm : Mv ρ im H w ρ' im' H' w') (hv : Rep ρ' H'.length im' v d) :
    OpOk P ρ im H w a o (.ok d H') := by
  intro ro n K Q hK _
  exact wpIn_run h (fun d h => by cases h) (hK v w' (.ok ρ' im' H' w' v d hm hv))
theorem opOk_same {o : Oper} {v : Value} {d : D} (hR : Rel ρ im H w) (h : (execOp a.eval o).run P w = .ok (.value v) w) (hv : Rep ρ H.length im v d) : OpOk P ρ im H w a o (.ok d H) :=
  opOk_value h (Mv.refl hR) hv
theorem opOk_skip {o : Oper} {ρ' : Rho} {im' : Im} {H' : Heap} {w' : World} (h : (execOp a.eval o).run P w = .ok .skip w') (hm : Mv ρ im H w ρ' im' H' w') : OpOk P ρ im H w a o (.ok ud H') := by
  intro ro n K Q hK _
  exact wpIn_run h (fun d h => by cases h) (hK undef w' (.ok ρ' im' H' w' undef ud hm rep_ud))

theorem Rep.int_inv {v : Value} {k : IntKind} {m : Int} (h : Rep ρ n im v (.int k m)) : v = .int k m := by cases h; rfl
theorem Rep.bool_inv {v : Value} {b : Bool} (h : Rep ρ n im v (.bool b)) : v = .bool b := by cases h; rfl
theorem Rep.str_inv {v : Value} {s : List UInt8} (h : Rep ρ n im v (.str s)) : ∃ t, v = .string t ∧ t.data.toList = s := by cases h; exact ⟨_, rfl, rfl⟩

end
end Vm
