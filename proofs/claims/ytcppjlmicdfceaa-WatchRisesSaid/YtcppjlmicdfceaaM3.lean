/- Texts that stand behind this claim, one after the other. -/
import Derived.Test.YtcppjlmicdfceaaM1
import Derived.Test.YtcppjlmicdfceaaM2
import Derived.TacticsIn
import Derived.OrdersIn
import Derived.Laws.BitsLemmas
/- Regions whose order is open: every order leaves the same. -/
section
set_option linter.unusedVariables false
set_option linter.unusedSimpArgs false
namespace Vm
open Go Go.RowKit

section
variable {P : Program} {A : Ann} {call : CallF} {N : Nat} {ops : Array Oper}

theorem purL_strip {k : Nat} : ∀ {l l' : List D} {H : Heap}, stripL l = some l' → purL (pur (k + 1)) H l = some (l', H)
  | [], l', H, h => by simp [stripL] at h; subst h; rfl
  | d :: r, l', H, h => by
    obtain ⟨d', r', h0, h1, rfl⟩ := stripL_cons h
    have hp : pur (k + 1) H d = some (d', H) := by simp only [pur, h0]
    have ih := purL_strip (k := k) (H := H) h1
    simp only [purL, hp, Option.bind_some, ih, Option.map_some]
theorem pures_strip {l l' : List D} {H : Heap} (h : stripL l = some l') : pures H l = some (l', H) := purL_strip h

theorem stepX_stepOp {o : Op} {e : Env} {H : Heap} {r : R} (h : stepX P A call o e H = some r) : stepOp P A call o e H = some r := by
  unfold stepX at h
  split at h
  · rename_i c
    split at h
    · split at h
      · obtain ⟨args, h1, h2⟩ := bind_some h
        split at h2
        · exact h2
        · cases h2
      · exact h
    · exact h
  · exact h
/-- a quiet operation leaves the heap -/
theorem quiet_same {o : Op} {e : Env} {H H' : Heap} {d : D} (hq : quietO A o = true) (h : stepX P A call o e H = some (.ok d H')) : H' = H := by
  cases o <;> simp only [quietO] at hq <;> try (cases hq; done)
  case call c =>
    unfold stepX at h
    cases hc : c.callee with
    | invoke x y => simp [hc] at hq
    | builtin b =>
      simp only [hc] at h hq
      simp only [stepOp, hc] at h
      obtain ⟨args, h1, h2⟩ := bind_some h
      obtain ⟨d', H1, h3, h4⟩ := okH_some h2
      cases h4
      unfold builtinD at h3
      split at h3
      · obtain ⟨m, _, h5⟩ := map_some h3; cases h5; rfl
      · simp at hq
      · obtain ⟨m, _, h5⟩ := map_some h3; cases h5; rfl
      · obtain ⟨m, _, h5⟩ := map_some h3; cases h5; rfl
      · cases h3
    | value f =>
      cases f with
      | func f =>
        simp only [hc] at h hq
        rw [if_pos hq] at h
        simp only [Bool.and_eq_true, beq_iff_eq, Option.isNone_iff_eq_none] at hq
        obtain ⟨args, h1, h2⟩ := bind_some h
        split at h2
        · rename_i hs
          obtain ⟨as, has⟩ := Option.isSome_iff_exists.1 hs
          simp only [stepOp, h1, hc, evalO, Option.bind_some, List.append_nil] at h2
          unfold callD at h2
          split at h2
          · cases h2
          · simp only [hq.1, hq.2] at h2
            rw [pures_strip has] at h2
            simp only [Option.bind_some] at h2
            obtain ⟨r, h3, h4⟩ := bind_some h2
            cases r with
            | pan _ _ => cases h4
            | ok d' Hc =>
              simp only at h4
              rw [if_neg (by decide)] at h4
              obtain ⟨d2, h5, h6⟩ := map_some h4
              cases h6
              simp
        · cases h2
      | _ => simp [hc] at hq
  all_goals simp only [stepX, stepOp] at h
  case makeFunc fn fs cs =>
    cases fn <;> simp only at h <;> try (cases h; done)
    split at h
    · obtain ⟨l, h1, h2⟩ := map_some h; cases h2; rfl
    · cases h
  case makeInterface t x =>
    obtain ⟨p, h1, h2⟩ := bind_some h
    split at h2
    · cases h2
    · cases h2; rfl
    · cases h2
  case convert s t x =>
    obtain ⟨p, h1, h2⟩ := bind_some h
    obtain ⟨d', H1, h3, h4⟩ := okH_some h2
    cases h4
    unfold convD at h3
    split at h3
    · cases h3; rfl
    · cases h3; rfl
    · cases h3
  case nilCheck x =>
    obtain ⟨p, h1, h2⟩ := bind_some h
    cases p <;> simp only at h2 <;> cases h2 <;> rfl
  case pick c x y =>
    obtain ⟨p, h1, h2⟩ := bind_some h
    cases p <;> simp only at h2 <;> try (cases h2; done)
    obtain ⟨_, _, h4⟩ := okD_some h2; cases h4; rfl
  case field t x f =>
    obtain ⟨p, h1, h2⟩ := bind_some h
    cases p <;> simp only at h2 <;> try (cases h2; done)
    obtain ⟨_, _, h3⟩ := bind_some h2
    obtain ⟨_, _, h4⟩ := okD_some h3; cases h4; rfl
  case extract x i =>
    obtain ⟨p, h1, h2⟩ := bind_some h
    cases p <;> simp only at h2 <;> try (cases h2; done)
    obtain ⟨_, _, h4⟩ := okD_some h2; cases h4; rfl
  all_goals first
    | (obtain ⟨_, _, h4⟩ := okD_some h; cases h4; rfl)
    | (obtain ⟨_, _, h1⟩ := bind_some h; obtain ⟨_, _, h4⟩ := okD_some h1; cases h4; rfl)
    | (obtain ⟨_, _, h1⟩ := bind_some h; obtain ⟨_, _, h2⟩ := bind_some h1; obtain ⟨_, _, h4⟩ := okD_some h2; cases h4; rfl)
    | (obtain ⟨_, _, h1⟩ := bind_some h; obtain ⟨_, _, h2⟩ := bind_some h1; obtain ⟨_, _, h3⟩ := bind_some h2; obtain ⟨_, _, h4⟩ := okD_some h3; cases h4; rfl)
    | (obtain ⟨_, _, h1⟩ := bind_some h; obtain ⟨_, _, h2⟩ := bind_some h1; obtain ⟨_, _, h3⟩ := bind_some h2; obtain ⟨_, _, h5⟩ := bind_some h3; obtain ⟨_, _, h4⟩ := okD_some h5; cases h4; rfl)

/-- an operation looks at its operands alone -/
theorem evalO_congr {e e' : Env} {x : Operand} (h : ∀ t, x = .tmp t → e t = e' t) : evalO e x = evalO e' x := by
  cases x <;> simp only [evalO]
  exact congrArg some (h _ rfl)
theorem evalOs_congr {e e' : Env} : ∀ {l : List Operand}, (∀ t, Operand.tmp t ∈ l → e t = e' t) → evalOs e l = evalOs e' l
  | [], _ => rfl
  | x :: r, h => by
    simp only [evalOs]
    rw [evalO_congr (fun t ht => h t (by simp [ht])), evalOs_congr (fun t ht => h t (by simp [ht]))]
theorem evalOo_congr {e e' : Env} {x : Option Operand} (h : ∀ t, x = some (.tmp t) → e t = e' t) : evalOo e x = evalOo e' x := by
  cases x with
  | none => rfl
  | some x => simp only [evalOo]; rw [evalO_congr (fun t ht => h t (by rw [ht]))]
theorem partsD_congr {e e' : Env} : ∀ {l : List (Nat × Operand)}, (∀ t, Operand.tmp t ∈ l.map (·.2) → e t = e' t) → partsD e l = partsD e' l
  | [], _ => rfl
  | (i, x) :: r, h => by
    simp only [partsD]
    rw [evalO_congr (fun t ht => h t (by simp [ht])), partsD_congr (fun t ht => h t (by simp at ht ⊢; exact .inr ht))]
theorem stepOp_congr {o : Op} {e e' : Env} {H : Heap} (h : ∀ t, Operand.tmp t ∈ o.operands.toList → e t = e' t) : stepOp P A call o e H = stepOp P A call o e' H := by
  cases o <;> simp only [Op.operands] at h <;> simp only [stepOp] <;> first | rfl | skip
  case build t ps => rw [partsD_congr (e' := e') (fun t ht => h t (by simpa using ht))]
  case buildSlice t n ps => rw [partsD_congr (e' := e') (fun t ht => h t (by simpa using ht))]
  case makeFunc fn fs cs =>
    cases fn <;> simp only
    rw [evalOs_congr (e' := e') (fun t ht => h t (by simp; right; simpa using ht))]
  case slice t x lo hi mx =>
    rw [evalO_congr (e' := e') (x := x) (fun t ht => h t (by simp [ht])), evalOo_congr (e' := e') (x := lo) (fun t ht => h t (by simp [ht])), evalOo_congr (e' := e') (x := hi) (fun t ht => h t (by simp [ht])), evalOo_congr (e' := e') (x := mx) (fun t ht => h t (by simp [ht]))]
  case call c =>
    rw [evalOs_congr (e' := e') (fun t ht => h t (by simp [Call.operands] at ht ⊢; exact .inr ht))]
    cases hc : c.callee with
    | builtin b => rfl
    | invoke x y => rfl
    | value f => simp only; rw [evalO_congr (e' := e') (x := f) (fun t ht => h t (by simp [Call.operands, hc, ht]))]
  case pick c x y =>
    rw [evalO_congr (e' := e') (x := c) (fun t ht => h t (by simp [ht])), evalO_congr (e' := e') (x := x) (fun t ht => h t (by simp [ht])), evalO_congr (e' := e') (x := y) (fun t ht => h t (by simp [ht]))]
  case load t x => rw [evalO_congr (e' := e') (x := x) (fun t ht => h t (by simp [ht]))]
  case box t x => rw [evalO_congr (e' := e') (x := x) (fun t ht => h t (by simp [ht]))]
  case move x => rw [evalO_congr (e' := e') (x := x) (fun t ht => h t (by simp [ht]))]
  case assign x => rw [evalO_congr (e' := e') (x := x) (fun t ht => h t (by simp [ht]))]
  case nilCheck x => rw [evalO_congr (e' := e') (x := x) (fun t ht => h t (by simp [ht]))]
  case unOp o t x => rw [evalO_congr (e' := e') (x := x) (fun t ht => h t (by simp [ht]))]
  case convert s t x => rw [evalO_congr (e' := e') (x := x) (fun t ht => h t (by simp [ht]))]
  case makeInterface t x => rw [evalO_congr (e' := e') (x := x) (fun t ht => h t (by simp [ht]))]
  case fieldAddr t x f => rw [evalO_congr (e' := e') (x := x) (fun t ht => h t (by simp [ht]))]
  case field t x f => rw [evalO_congr (e' := e') (x := x) (fun t ht => h t (by simp [ht]))]
  case extract x i => rw [evalO_congr (e' := e') (x := x) (fun t ht => h t (by simp [ht]))]
  case typeAssert x xt t ok => rw [evalO_congr (e' := e') (x := x) (fun t ht => h t (by simp [ht]))]
  case panic x => rw [evalO_congr (e' := e') (x := x) (fun t ht => h t (by simp [ht]))]
  case store t x y => rw [evalO_congr (e' := e') (x := x) (fun t ht => h t (by simp [ht])), evalO_congr (e' := e') (x := y) (fun t ht => h t (by simp [ht]))]
  case binOp o t x y yt => rw [evalO_congr (e' := e') (x := x) (fun t ht => h t (by simp [ht])), evalO_congr (e' := e') (x := y) (fun t ht => h t (by simp [ht]))]
  case makeSlice t x y => rw [evalO_congr (e' := e') (x := x) (fun t ht => h t (by simp [ht])), evalO_congr (e' := e') (x := y) (fun t ht => h t (by simp [ht]))]
  case indexAddr t x y => rw [evalO_congr (e' := e') (x := x) (fun t ht => h t (by simp [ht])), evalO_congr (e' := e') (x := y) (fun t ht => h t (by simp [ht]))]
  case index t x y => rw [evalO_congr (e' := e') (x := x) (fun t ht => h t (by simp [ht])), evalO_congr (e' := e') (x := y) (fun t ht => h t (by simp [ht]))]
theorem stepX_congr {o : Op} {e e' : Env} {H : Heap} (h : ∀ t, Operand.tmp t ∈ o.operands.toList → e t = e' t) : stepX P A call o e H = stepX P A call o e' H := by
  have h0 := stepOp_congr (P := P) (A := A) (call := call) (H := H) h
  cases o <;> simp only [stepX] <;> first | exact h0 | skip
  rename_i c
  have h1 : evalOs e c.args.toList = evalOs e' c.args.toList := evalOs_congr (fun t ht => h t (by simp [Op.operands, Call.operands] at ht ⊢; exact .inr ht))
  rw [h0, h1]
end
end Vm
end
/- Code and calls of the interpreter are the model's. -/
section
set_option linter.unusedVariables false
set_option linter.unusedSimpArgs false
namespace Vm
open Go Go.RowKit

/-- where code ends, in both -/
def exOf (v : Value) : Ex → Exit
  | .norm => .normal
  | .exit i => .exit i
  | .ret => .ret
  | .pan _ => .panic [{ v, recovered := false }]
/-- no object's block -/
def unowned (ρ : Rho) (H : Heap) (b : Nat) : Prop := ∀ r, r < H.length → live (hget H r) → (ρ r).b ≠ b
/-- the calls that wait, in both; blocks from n0 on are the function's own -/
inductive DfL (ρ : Rho) (n0 : Nat) (im : Im) (H : Heap) (w : World) : List Deferred → List Dfr → Prop
  | nil : DfL ρ n0 im H w [] []
  | call (g : FuncId) (vs us : List Value) (ds : List D) (l : List Deferred) (l' : List Dfr) (h : RepA ρ H.length im (vs ++ us) ds) (hr : DfL ρ n0 im H w l l') :
      DfL ρ n0 im H w ({ target := .fn (.func g) ⟨us⟩, args := ⟨vs⟩ } :: l) (.call g ds :: l')
  | mark (b : Nat) (l : List Deferred) (l' : List Dfr) (hb : n0 ≤ b) (ho : w.heap[b]? = some (.deferred (some []))) (hu : unowned ρ H b) (hm : l'.all callQ = true) (hr : DfL ρ n0 im H w l l') :
      DfL ρ n0 im H w ({ target := .collected b, args := #[] } :: l) (.mark :: l')
structure DfR (ρ : Rho) (n0 : Nat) (im : Im) (H : Heap) (w : World) (ro : Option Nat) (ds : List Deferred) (df : Option (List Dfr)) : Prop where
  n : n0 ≤ w.heap.size
  r : ∀ l, df = some l → ro = none ∧ DfL ρ n0 im H w ds l
theorem unowned.mv {ρ ρ1 : Rho} {im im1 : Im} {H H1 : Heap} {w w1 : World} {b : Nat} (m : Mv ρ im H w ρ1 im1 H1 w1) (hb : b < w.heap.size) (h : unowned ρ H b) : unowned ρ1 H1 b := by
  intro r hr hl e
  obtain ⟨s, hs, hls, es⟩ := m.tr.own r hr hl (by omega)
  exact h s hs hls (by omega)
theorem DfL.mv {ρ ρ1 : Rho} {n0 : Nat} {im im1 : Im} {H H1 : Heap} {w w1 : World} (m : Mv ρ im H w ρ1 im1 H1 w1) : ∀ {ds : List Deferred} {l : List Dfr}, DfL ρ n0 im H w ds l → DfL ρ1 n0 im1 H1 w1 ds l
  | _, _, .nil => .nil
  | _, _, .call g vs us ds l l' h hr => .call g vs us ds l l' (m.repA h) (DfL.mv m hr)
  | _, _, .mark b l l' hb ho hu hm hr => by
    have hlt : b < w.heap.size := (Array.getElem?_eq_some_iff.1 ho).1
    exact .mark b l l' hb ((m.tr.keep b hlt hu).trans ho) (hu.mv m hlt) hm (DfL.mv m hr)
theorem DfR.mv {ρ ρ1 : Rho} {n0 : Nat} {im im1 : Im} {H H1 : Heap} {w w1 : World} {ro : Option Nat} {ds : List Deferred} {df : Option (List Dfr)} (m : Mv ρ im H w ρ1 im1 H1 w1) (h : DfR ρ n0 im H w ro ds df) : DfR ρ1 n0 im1 H1 w1 ro ds df :=
  ⟨Nat.le_trans h.n m.tr.size, fun l hl => ⟨(h.r l hl).1, (h.r l hl).2.mv m⟩⟩
/-- what holds behind code -/
structure After (ρ : Rho) (im : Im) (H : Heap) (w : World) (N : Nat) (n0 : Nat) (ro : Option Nat) (s : St) (x : Exit) (a' : Act) (w' : World) : Prop where
  ex : ∃ ρ' im', Mv ρ im H w ρ' im' s.H w' ∧ EnvR ρ' s.H.length im' N a' s.e ∧ DfR ρ' n0 im' s.H w' ro a'.defers s.e.df ∧ ∃ v, x = exOf v s.ex ∧ ∀ d, s.ex = .pan d → Rep ρ' s.H.length im' v d
theorem After.mv {ρ ρ1 : Rho} {im im1 : Im} {H H1 : Heap} {w w1 : World} {N : Nat} {n0 : Nat} {ro : Option Nat} {s : St} {x : Exit} {a' : Act} {w' : World} (m : Mv ρ im H w ρ1 im1 H1 w1) (h : After ρ1 im1 H1 w1 N n0 ro s x a' w') : After ρ im H w N n0 ro s x a' w' := by
  obtain ⟨ρ', im', h1, h2, h3, h4⟩ := h.ex
  exact ⟨ρ', im', m.trans h1, h2, h3, h4⟩
theorem putO_df {e : Env} {i : Option Nat} {d : D} : (putO e i d).df = e.df := by cases i <;> rfl
theorem put_defers {a : Act} {i : Option Nat} {v : Value} : (a.put i v).defers = a.defers := by cases i <;> rfl
theorem After.plain {ρ : Rho} {im : Im} {H : Heap} {w : World} {N : Nat} {n0 : Nat} {ro : Option Nat} {a : Act} {e : Env} {x : Ex} (hR : Rel ρ im H w) (he : EnvR ρ H.length im N a e) (hd : DfR ρ n0 im H w ro a.defers e.df) (hx : ∀ d, x ≠ .pan d) :
    After ρ im H w N n0 ro ⟨x, e, H⟩ (exOf .nilIface x) a w :=
  ⟨ρ, im, Mv.refl hR, he, hd, .nilIface, rfl, fun d h => absurd h (hx d)⟩

section
variable {P : Program} {A : Ann} {call : CallF} {N : Nat}

theorem yielded_wantD {ρ : Rho} {n : Nat} {im : Im} {a : Act} {e : Env} {ops : Array Oper} {o : Oper} {b : Bool} (he : EnvR ρ n im N a e) (h : wantD ops e o = some b) : Region.wanted o (yielded ops a.tmps) = b := by
  unfold wantD at h
  unfold Region.wanted
  cases hg : o.guard with
  | none => simp [hg] at h; simp [h]
  | some p =>
    obtain ⟨j, want⟩ := p
    simp only [hg] at h ⊢
    unfold yielded
    cases hd : (ops[j]?).bind (·.dst) with
    | none => simp [hd] at h; subst h; simp
    | some d =>
      simp only [hd] at h
      have hr := he.get d
      cases hed : e d with
      | bool c =>
        rw [hed] at hr
        simp [hed] at h
        have hv := hr.bool_inv
        rw [Array.getD_eq_getD_getElem?] at hv
        cases ht : a.tmps[d]? with
        | none => rw [ht] at hv; simp [undef] at hv
        | some v =>
          rw [ht] at hv
          simp at hv; subst hv
          simp [ht, ← h]
      | _ =>
        simp [hed] at h
        subst h
        rw [hed] at hr
        cases ht : a.tmps[d]? with
        | none => simp [ht]
        | some v =>
          rw [Array.getD_eq_getD_getElem?, ht] at hr
          simp at hr
          simp [ht]
          cases hr <;> simp
theorem pushD_ok {e e' : Env} {a : Act} {c : Call} {ρ : Rho} {n0 : Nat} {im : Im} {H : Heap} {w : World} {ro : Option Nat} {o : Oper} (ho : o.op = .defer c) (he : EnvR ρ H.length im N a e) (hd : DfR ρ n0 im H w ro a.defers e.df) (h : pushD P e c = some e') :
    ro = none ∧ ∃ d, (execOp a.eval o).run P w = .ok (.defer d) w ∧ EnvR ρ H.length im N { a with defers := d :: a.defers } e' ∧ DfR ρ n0 im H w ro (d :: a.defers) e'.df := by
  unfold pushD at h
  obtain ⟨l, h1, h2⟩ := bind_some h
  obtain ⟨hro, hl⟩ := hd.r l h1
  refine ⟨hro, ?_⟩
  cases hc : c.callee with
  | builtin b => simp [hc] at h2
  | invoke x y => simp [hc] at h2
  | value f =>
    simp only [hc] at h2
    obtain ⟨args, h3, h4⟩ := bind_some h2
    obtain ⟨df, h5, h6⟩ := bind_some h4
    have hf := evalO_rep he h5
    cases df <;> simp only at h6 <;> try (cases h6; done)
    rename_i g cs
    split at h6
    · rename_i hb
      simp at h6; subst h6
      generalize hv : a.eval f = v at hf
      cases hf with
      | fn _ vs _ hvs =>
        refine ⟨{ target := .fn (.func g) ⟨vs⟩, args := ⟨c.args.toList.map a.eval⟩ }, ?_, ⟨he.size, he.get⟩, ⟨hd.n, fun l' hl' => ⟨hro, ?_⟩⟩⟩
        · have e2 : c.args.map a.eval = ⟨c.args.toList.map a.eval⟩ := by apply Array.ext'; simp
          simp only [execOp, ho, Sem.run_bind, resolve_run (P := P) (w := w) hc hv, Result.andThen_ok, e2]
          rfl
        · simp at hl'; subst hl'
          exact .call g _ vs _ _ _ ((evalOs_rep he h3).append hvs) hl
    · cases h6
theorem runOps_ok (hA : PrimOk P A) (hcall : CallOk P call) {n0 : Nat} {ro : Option Nat} {n : Nat} {ops : Array Oper} {Q : Exit → Act → World → Prop} : ∀ (l : List Oper) {ρ : Rho} {im : Im} {H : Heap} {w : World} {a : Act} {e : Env} {s : St},
    Rel ρ im H w → EnvR ρ H.length im N a e → DfR ρ n0 im H w ro a.defers e.df → runOps P A call N ops l e H = some s → (∀ x a' w', After ρ im H w N n0 ro s x a' w' → Q x a' w') → wpListIn (FW ro) n P ops Q l a w
  | [], ρ, im, H, w, a, e, s, hR, he, hd, h, hQ => by
    simp [runOps] at h; subst h
    exact hQ _ _ _ (.plain hR he hd (fun d h => by cases h))
  | o :: rest, ρ, im, H, w, a, e, s, hR, he, hd, h, hQ => by
    simp only [runOps] at h
    split at h
    · cases h
    · rename_i hdst
      simp only [Bool.not_eq_false] at hdst
      cases hw : wantD ops e o with
      | none => simp [hw] at h
      | some b =>
        have hwant := yielded_wantD he hw
        unfold wpListIn
        rw [hwant]
        cases b with
        | false =>
          simp only [hw] at h
          simp only [Bool.false_eq_true, if_false]
          exact ⟨fun _ _ => trivial, runOps_ok hA hcall rest hR (he.put hdst rep_ud) (by rw [put_defers, putO_df]; exact hd) h hQ⟩
        | true =>
          simp only [hw] at h
          simp only [if_true]
          cases hdc : deferC o.op with
          | some c =>
            simp only [hdc] at h
            have ho : o.op = .defer c := by
              cases hop : o.op <;> simp [deferC, hop] at hdc
              rw [hdc]
            cases hp : pushD P e c with
            | none => simp [hp] at h
            | some e' =>
              simp only [hp] at h
              obtain ⟨hro, d, hrun, he', hd'⟩ := pushD_ok ho he hd hp
              refine ⟨fun _ _ => trivial, ?_⟩
              have : (o.semAt (FW ro).round a.eval).run P w = .ok (.defer d) w := by
                subst hro; exact hrun
              rw [this]
              exact runOps_ok hA hcall rest hR (he'.put hdst rep_ud) (by rw [put_defers, putO_df]; exact hd') h hQ
          | none =>
            simp only [hdc] at h
            cases hs : stepOp P A call o.op e H with
            | none => simp [hs] at h
            | some r =>
              have hop := stepOp_ok hA hcall (o := o) hR he hs
              refine hop ro n _ _ ?_ ?_
              · intro v w1 hout
                cases hout with
                | ok ρ1 im1 H1 _ _ d hm hv =>
                  simp only [hs] at h
                  exact runOps_ok hA hcall rest hm.rel ((hm.env he).put hdst hv) (by rw [put_defers, putO_df]; exact hd.mv hm) h fun x a' w' haf => hQ x a' w' (haf.mv hm)
              · intro ch w1 hout
                cases hout with
                | pan ρ1 im1 H1 _ v d hm hv =>
                  simp only [hs] at h
                  simp at h; subst h
                  exact hQ _ _ _ ⟨ρ1, im1, hm, hm.env he, hd.mv hm, v, rfl, fun d' hd => by cases hd; exact hv⟩

def CodeOk (P : Program) (N : Nat) (run : Env → Heap → Option St) (c : Code) : Prop :=
  ∀ (ρ : Rho) (im : Im) (H : Heap) (w : World) (a : Act) (e : Env) (s : St) (n0 : Nat) (ro : Option Nat) (n : Nat), Rel ρ im H w → EnvR ρ H.length im N a e → DfR ρ n0 im H w ro a.defers e.df → run e H = some s →
    c.wpIn (FW ro) n P (After ρ im H w N n0 ro s) a w

theorem iterC_ok {run : Env → Heap → Option St} {c : Code} (hc : CodeOk P N run c) : ∀ (k : Nat), CodeOk P N (iterC run k) (.loop c)
  | 0 => fun _ _ _ _ _ _ _ _ _ _ hR he hd h => by simp [iterC] at h
  | k + 1 => fun ρ im H w a e s n0 ro n hR he hd h => by
    intro b kk cs hro hb hroom
    have key : ∀ (k : Nat) {ρ : Rho} {im : Im} {H : Heap} {w : World} {a : Act} {e : Env} {s : St}, Rel ρ im H w → EnvR ρ H.length im N a e → DfR ρ n0 im H w ro a.defers e.df → iterC run k e H = some s →
        ∃ x a' w', After ρ im H w N n0 ro s x a' w' ∧ ArrivesIn (Machine.fenced P (FW ro)) P (lone (b.atR a (.code c :: .inLoop c :: kk)) cs w) b kk cs x a' w' := by
      intro k
      induction k with
      | zero => intro ρ im H w a e s hR he hd h; simp [iterC] at h
      | succ k ih =>
        intro ρ im H w a e s hR he hd h
        simp only [iterC] at h
        cases hr : run e H with
        | none => simp [hr] at h
        | some s1 =>
          obtain ⟨x1, a1, w1, haf, harr⟩ := hc _ _ _ _ _ _ _ n0 ro n hR he hd hr b (.inLoop c :: kk) cs hro hb hroom
          obtain ⟨ρ1, im1, hm, he1, hd1, v1, hx1, hp1⟩ := haf.ex
          obtain ⟨ex1, e1, H1⟩ := s1
          cases ex1 with
          | norm =>
            simp only [hr] at h
            simp only [exOf] at hx1
            subst hx1
            obtain ⟨x2, a2, w2, haf2, harr2⟩ := ih hm.rel he1 hd1 h
            exact ⟨x2, a2, w2, haf2.mv hm, .of_steps (StepsIn.trans harr (.one (fenced_calm hb hroom rfl) stepR_inLoop)) harr2⟩
          | _ =>
            simp only [hr] at h
            simp at h; subst h
            simp only [exOf] at hx1
            subst hx1
            exact ⟨_, a1, w1, haf, .pass (x := .inLoop c) rfl (fun _ _ => .inl (by simp)) harr⟩
    obtain ⟨x, a', w', q, harr⟩ := key (k + 1) hR he hd h
    exact ⟨x, a', w', q, .of_steps (.one (fenced_calm hb hroom rfl) stepR_loop) harr⟩

end
end Vm
end
/- Regions whose order is open, in the model. -/
section
set_option linter.unusedVariables false
set_option linter.unusedSimpArgs false
namespace Vm
open Go Go.RowKit

section
variable {P : Program} {A : Ann} {call : CallF} {N : Nat} {ops : Array Oper}

abbrev S2 := Env × Heap
/-- one operation, by its number -/
def effX (P : Program) (A : Ann) (call : CallF) (N : Nat) (ops : Array Oper) (i : Nat) (s : S2) : Option S2 :=
  match ops[i]? with
  | none => some s
  | some o => if dstOk N o.dst = false then none else
    match wantD ops s.1 o with
    | some true => match stepX P A call o.op s.1 s.2 with
      | some (.ok d H) => some (putO s.1 o.dst d, H)
      | _ => none
    | some false => some (putO s.1 o.dst ud, s.2)
    | none => none
def anyX (P : Program) (A : Ann) (call : CallF) (N : Nat) (ops : Array Oper) (E : S2) : Nat → Array Bool → S2 → Prop
  | 0, listed, s => Region.ready .any ops listed = [] ∧ s = E
  | fuel + 1, listed, s => (Region.ready .any ops listed = [] → s = E) ∧ ∀ i ∈ Region.ready .any ops listed, ∃ s1, effX P A call N ops i s = some s1 ∧ anyX P A call N ops E fuel (listed.setIfInBounds i true) s1

theorem putO_ne {e : Env} {x : Option Nat} {v : D} {t : Nat} (h : ∀ d, x = some d → t ≠ d) : putO e x v t = e t := by
  cases x with
  | none => rfl
  | some d => simp [putO, put, h d rfl]
theorem putO_comm {e : Env} {x y : Option Nat} {v u : D} (h : ∀ d, x = some d → y ≠ some d) : putO (putO e x v) y u = putO (putO e y u) x v := by
  cases x with
  | none => rfl
  | some d =>
    cases y with
    | none => rfl
    | some c =>
      have hne : d ≠ c := fun e => h d rfl (e ▸ rfl)
      simp only [putO, put, Env.mk.injEq, and_true]
      funext t
      by_cases h1 : t = c <;> by_cases h2 : t = d <;> simp_all
theorem wantD_put {e : Env} {o : Oper} {x : Option Nat} {v : D} (h : ∀ d, x = some d → d ∉ o.looksAt ops) : wantD ops (putO e x v) o = wantD ops e o := by
  unfold wantD
  cases hg : o.guard with
  | none => rfl
  | some p =>
    obtain ⟨g, want⟩ := p
    simp only
    cases hd : (ops[g]?).bind (·.dst) with
    | none => rfl
    | some t =>
      simp only
      rw [putO_ne (fun d hd' ht => h d hd' (by subst ht; simp [Oper.looksAt, hg, hd]))]
theorem stepX_put {e : Env} {H : Heap} {o : Oper} {x : Option Nat} {v : D} (h : ∀ d, x = some d → d ∉ o.looksAt ops) : stepX P A call o.op (putO e x v) H = stepX P A call o.op e H := by
  refine stepX_congr fun t ht => putO_ne fun d hd htd => h d hd ?_
  subst htd
  exact List.mem_append_left _ (List.mem_filterMap.2 ⟨.tmp t, ht, rfl⟩)
/-- two quiet operations, apart: either first -/
theorem effX_comm {i j : Nat} {oi oj : Oper} (hi : ops[i]? = some oi) (hj : ops[j]? = some oj) (hap : oi.apart ops oj = true) (hqi : quietO A oi.op = true) (hqj : quietO A oj.op = true) {s s1 s2 : S2}
    (h1 : effX P A call N ops i s = some s1) (h2 : effX P A call N ops j s1 = some s2) : ∃ s1', effX P A call N ops j s = some s1' ∧ effX P A call N ops i s1' = some s2 := by
  obtain ⟨a1, a2, a3⟩ := Oper.apart_spec hap
  obtain ⟨e, H⟩ := s
  -- what each leaves
  have eff : ∀ {k : Nat} {o : Oper} {e : Env} {H : Heap} {s' : S2}, ops[k]? = some o → quietO A o.op = true → effX P A call N ops k (e, H) = some s' →
      ∃ v, s' = (putO e o.dst v, H) ∧ dstOk N o.dst = true ∧ ((wantD ops e o = some true ∧ stepX P A call o.op e H = some (.ok v H)) ∨ (wantD ops e o = some false ∧ v = ud)) := by
    intro k o e H s' hk hq h
    unfold effX at h
    simp only [hk] at h
    split at h
    · cases h
    · rename_i hd
      simp only [Bool.not_eq_false] at hd
      cases hw : wantD ops e o with
      | none => simp [hw] at h
      | some b =>
        cases b with
        | false => simp [hw] at h; exact ⟨ud, h.symm, hd, .inr ⟨rfl, rfl⟩⟩
        | true =>
          simp only [hw] at h
          cases hs : stepX P A call o.op e H with
          | none => simp [hs] at h
          | some r =>
            cases r with
            | pan _ _ => simp [hs] at h
            | ok d H' =>
              simp [hs] at h
              have := quiet_same hq hs
              subst this
              exact ⟨d, h.symm, hd, .inl ⟨rfl, rfl⟩⟩
  obtain ⟨v, rfl, hdi, hvi⟩ := eff hi hqi h1
  obtain ⟨u, rfl, hdj, hvj⟩ := eff hj hqj h2
  have wj := wantD_put (ops := ops) (e := e) (o := oj) (x := oi.dst) (v := v) a1
  have sj := stepX_put (P := P) (A := A) (call := call) (ops := ops) (e := e) (H := H) (o := oj) (x := oi.dst) (v := v) a1
  have wi := wantD_put (ops := ops) (e := e) (o := oi) (x := oj.dst) (v := u) a3
  have si := stepX_put (P := P) (A := A) (call := call) (ops := ops) (e := e) (H := H) (o := oi) (x := oj.dst) (v := u) a3
  rw [wj, sj] at hvj
  refine ⟨(putO e oj.dst u, H), ?_, ?_⟩
  · unfold effX
    simp only [hj, hdj]
    rcases hvj with ⟨w1, s1⟩ | ⟨w1, rfl⟩
    · simp [w1, s1]
    · simp [w1]
  · unfold effX
    simp only [hi, hdi, wi, si]
    rw [putO_comm (fun d hd => a2 d hd)]
    rcases hvi with ⟨w1, s1⟩ | ⟨w1, rfl⟩
    · simp [w1, s1]
    · simp [w1]

/-- who waits, waits on listed ones -/
def ClosedL (ops : Array Oper) (listed : Array Bool) : Prop :=
  ∀ k ok, ops[k]? = some ok → listed.getD k true = true → ∀ e ∈ ok.after, Region.binds .any e = true → listed.getD e.on false = true
theorem getD_false_true {listed : Array Bool} {k : Nat} (h : listed.getD k false = true) : listed.getD k true = true := by
  rcases Nat.lt_or_ge k listed.size with h' | h'
  · simp [h'] at h ⊢; exact h
  · simp [Array.getElem?_eq_none h'] at h
theorem chain_false {listed : Array Bool} (hc : ClosedL ops listed) {i : Nat} (hi : listed.getD i true = false) : ∀ (n j : Nat), (∀ oj, ops[j]? = some oj → ∀ e ∈ oj.after, Region.binds .any e = true → listed.getD e.on false = true) → chainOn ops n j i = false
  | 0, _, _ => rfl
  | n + 1, j, h => by
    simp only [chainOn]
    cases ho : ops[j]? with
    | none => rfl
    | some oj =>
      simp only [Option.map_some, Option.getD_some, Bool.or_eq_false_iff, List.any_eq_false, Bool.and_eq_true, beq_iff_eq, not_and]
      refine ⟨fun e he hb heq => ?_, fun e he hb => ?_⟩
      · have hl := h oj ho e (by simpa using he) hb
        rw [heq] at hl; rw [getD_false_true hl] at hi; cases hi
      · have hl := h oj ho e (by simpa using he) hb
        rw [chain_false hc hi n e.on (fun ok hok e' he' hb' => hc e.on ok hok (getD_false_true hl) e' he' hb')]; simp
theorem ClosedL.set {listed : Array Bool} (hc : ClosedL ops listed) {i : Nat} (hi : i ∈ Region.ready .any ops listed) : ClosedL ops (listed.setIfInBounds i true) := by
  intro k ok hk hl e he hb
  obtain ⟨hiun, oi, hoi, hall⟩ := mem_ready.1 hi
  have old : listed.getD e.on false = true := by
    by_cases hki : k = i
    · subst hki; rw [hoi] at hk; cases hk; exact hall e he hb
    · rw [getD_set_ne true (Ne.symm hki)] at hl; exact hc k ok hk hl e he hb
  rcases Nat.lt_or_ge e.on listed.size with h' | h'
  · by_cases hx : i = e.on
    · rw [← hx]; rw [← hx] at h'; simp [h']
    · simp only [Array.getD_eq_getD_getElem?, Array.getElem?_setIfInBounds, if_neg hx]; simpa using old
  · simp [Array.getElem?_eq_none h'] at old
theorem anyX_first {E : S2} {i : Nat} {oi : Oper} (hi : ops[i]? = some oi) : ∀ (fuel : Nat) (listed : Array Bool) (s s1 : S2),
    ClosedL ops listed → (∀ j oj, ops[j]? = some oj → j ≠ i → listed.getD j true = false → (∀ e ∈ oj.after, Region.binds .any e = true → e.on ≠ i) → chainOn ops ops.size j i = false → oi.apart ops oj = true ∧ quietO A oi.op = true ∧ quietO A oj.op = true) →
    i ∈ Region.ready .any ops listed → effX P A call N ops i s = some s1 → anyX P A call N ops E fuel (listed.setIfInBounds i true) s1 → anyX P A call N ops E (fuel + 1) listed s := by
  intro fuel
  induction fuel with
  | zero =>
    intro listed s s1 _ _ hr hy H
    refine ⟨fun h => (by rw [h] at hr; cases hr), fun j hj => ?_⟩
    by_cases hji : j = i
    · subst hji; exact ⟨s1, hy, H⟩
    · have := ready_mono hj hji
      rw [H.1] at this
      cases this
  | succ fuel ih =>
    intro listed s s1 hcl hfree hr hy H
    refine ⟨fun h => (by rw [h] at hr; cases hr), fun j hj => ?_⟩
    by_cases hji : j = i
    · subst hji; exact ⟨s1, hy, H⟩
    · obtain ⟨s2, h2, H2⟩ := H.2 j (ready_mono hj hji)
      obtain ⟨hjun, oj, hoj, hall⟩ := mem_ready.1 hj
      have hnot : ∀ e ∈ oj.after, Region.binds .any e = true → e.on ≠ i := fun e he hb heq => by
        have h1 := hall e he hb
        have h0 := (mem_ready.1 hr).1
        rw [heq] at h1
        rcases Nat.lt_or_ge i listed.size with h' | h'
        · simp [h'] at h0 h1; rw [h0] at h1; cases h1
        · simp [Array.getElem?_eq_none h'] at h1
      obtain ⟨hap, hqi, hqj⟩ := hfree j oj hoj hji hjun hnot (chain_false hcl (mem_ready.1 hr).1 _ _ (fun ok hok => by rw [hoj] at hok; cases hok; exact hall))
      obtain ⟨s1', g1, g2⟩ := effX_comm hi hoj hap hqi hqj hy h2
      have hfree' : ∀ k ok, ops[k]? = some ok → k ≠ i → (listed.setIfInBounds j true).getD k true = false →
          (∀ e ∈ ok.after, Region.binds .any e = true → e.on ≠ i) → chainOn ops ops.size k i = false → oi.apart ops ok = true ∧ quietO A oi.op = true ∧ quietO A ok.op = true := fun k ok hk hki hun hno hch => by
        refine hfree k ok hk hki ?_ hno hch
        by_cases hjk : j = k
        · subst hjk; exact hjun
        · rw [getD_set_ne true hjk] at hun; exact hun
      refine ⟨s1', g1, ih (listed.setIfInBounds j true) s1' s2 (hcl.set hj) hfree' (ready_mono hr (Ne.symm hji)) g2 ?_⟩
      rw [Array.setIfInBounds_comm _ _ hji]
      exact H2
theorem anyX_lex {E : S2} (hloud : ∀ j k oj, ops[j]? = some oj → k < j → chainOn ops ops.size j k = false → quietAt A ops k = true ∧ quietO A oj.op = true) : ∀ (l : List Oper) (k : Nat) (listed : Array Bool) (e : Env) (H : Heap), (∀ j, l[j]? = ops[k + j]?) →
    (∀ j, j < k → listed.getD j true = true) → ClosedL ops listed →
    Region.lexFrom .any ops l.length k listed = true → runOpsX P A call N ops l e H = some ⟨.norm, E.1, E.2⟩ → anyX P A call N ops E l.length listed (e, H)
  | [], _, _, _, _, _, _, _, hB, h => by
    simp [runOpsX] at h
    exact ⟨by simpa [Region.lexFrom] using hB, by rw [h.1, h.2]⟩
  | o :: l, k, listed, e, H, hl, hdone, hcl, hB, h => by
    have h0 : ops[k]? = some o := by simpa using (hl 0).symm
    simp only [List.length_cons, Region.lexFrom, Bool.and_eq_true] at hB
    obtain ⟨⟨hr, hf⟩, hB'⟩ := hB
    have hr' : k ∈ Region.ready .any ops listed := by simpa using hr
    have hkl : listed.getD k true = false := (mem_ready.1 hr').1
    simp only [runOpsX] at h
    have key : ∃ s1 : S2, effX P A call N ops k (e, H) = some s1 ∧ runOpsX P A call N ops l s1.1 s1.2 = some ⟨.norm, E.1, E.2⟩ := by
      unfold effX
      simp only [h0]
      split at h
      · cases h
      · rename_i hd
        rw [if_neg hd]
        split at h
        · rename_i hw
          simp only [hw]
          split at h
          · rename_i d H1 hs
            simp only [hs]
            exact ⟨_, rfl, h⟩
          · cases h
        · rename_i hw
          simp only [hw]
          exact ⟨_, rfl, h⟩
        · cases h
    obtain ⟨s1, hy, hrest⟩ := key
    refine anyX_first h0 l.length listed (e, H) s1 hcl (fun j oj hj hjk hun hno hch => ?_) hr' hy ?_
    · refine ⟨Region.free_spec h0 hf j oj hj hjk hun hno, ?_⟩
      have hlt : k < j := by
        rcases Nat.lt_or_ge j k with h' | h'
        · rw [hdone j h'] at hun; cases hun
        · omega
      have := hloud j k oj hj hlt hch
      exact ⟨by simpa [quietAt, h0] using this.1, this.2⟩
    · refine anyX_lex hloud l (k + 1) _ s1.1 s1.2 (fun j => by have := hl (j + 1); simpa [Nat.add_assoc, Nat.add_comm 1 j] using this) (fun j hj => ?_) (hcl.set hr') hB' hrest
      by_cases hjk : j = k
      · subst hjk
        rcases Nat.lt_or_ge j listed.size with h' | h'
        · simp [h']
        · simp [h']
      · rw [getD_set_ne true (Ne.symm hjk)]
        exact hdone j (by omega)
theorem wpAny_of_anyX (hA : PrimOk P A) (hcall : CallOk P call) {E : S2} {n0 : Nat} {ro : Option Nat} {n : Nat} {Q : Exit → Act → World → Prop} : ∀ (fuel : Nat) (listed : Array Bool) {ρ : Rho} {im : Im} {w : World} {a : Act} {s : S2},
    Rel ρ im s.2 w → EnvR ρ s.2.length im N a s.1 → DfR ρ n0 im s.2 w ro a.defers s.1.df → anyX P A call N ops E fuel listed s → (∀ a' w', After ρ im s.2 w N n0 ro ⟨.norm, E.1, E.2⟩ .normal a' w' → Q .normal a' w') → wpAnyIn (FW ro) n P .any ops Q fuel listed a w
  | 0, listed, ρ, im, w, a, s, hR, he, hdf, h, hQ => by
    obtain ⟨h1, rfl⟩ := h
    exact ⟨h1, hQ _ _ (.plain (x := .norm) hR he hdf (fun d h => by cases h))⟩
  | fuel + 1, listed, ρ, im, w, a, s, hR, he, hdf, h, hQ => by
    refine ⟨fun h0 => ?_, fun i hi => ?_⟩
    · have := h.1 h0
      subst this
      exact hQ _ _ (.plain (x := .norm) hR he hdf (fun d h => by cases h))
    · obtain ⟨s1, g1, g2⟩ := h.2 i hi
      unfold wpOpIn
      unfold effX at g1
      cases ho : ops[i]? with
      | none =>
        simp only [ho] at g1
        simp at g1; subst g1
        exact wpAny_of_anyX hA hcall fuel _ hR he hdf g2 hQ
      | some o =>
        simp only [ho] at g1
        simp only
        split at g1
        · cases g1
        · rename_i hdst
          simp only [Bool.not_eq_false] at hdst
          cases hw : wantD ops s.1 o with
          | none => simp [hw] at g1
          | some b =>
            have hwant := yielded_wantD he hw
            rw [hwant]
            cases b with
            | false =>
              simp [hw] at g1; subst g1
              simp only [Bool.false_eq_true, if_false]
              exact ⟨fun _ _ => trivial, wpAny_of_anyX hA hcall (s := (putO s.1 o.dst ud, s.2)) fuel _ hR (he.put hdst rep_ud) (by rw [put_defers, putO_df]; exact hdf) g2 hQ⟩
            | true =>
              simp only [hw] at g1
              simp only [if_true]
              cases hs : stepX P A call o.op s.1 s.2 with
              | none => simp [hs] at g1
              | some r =>
                cases r with
                | pan _ _ => simp [hs] at g1
                | ok d H1 =>
                  simp [hs] at g1; subst g1
                  have hop := stepOp_ok hA hcall (o := o) hR he (stepX_stepOp hs)
                  refine hop ro n _ _ ?_ ?_
                  · intro v w1 hout
                    cases hout with
                    | ok ρ1 im1 _ _ _ _ hm hv =>
                      exact wpAny_of_anyX hA hcall (s := (putO s.1 o.dst d, H1)) fuel _ hm.rel ((hm.env he).put hdst hv) (by rw [put_defers, putO_df]; exact hdf.mv hm) g2 (fun a' w' haf => hQ a' w' (haf.mv hm))
                  · intro ch w1 hout
                    cases hout
theorem draw_ok (hm : P.follows .mixedOrders = true) (hA : PrimOk P A) (hcall : CallOk P call) {id : Nat} {ρ : Rho} {im : Im} {H : Heap} {w : World} {a : Act} {e : Env} {s : St} {n0 : Nat} {ro : Option Nat} {n : Nat} (hR : Rel ρ im H w) (he : EnvR ρ H.length im N a e) (hdf : DfR ρ n0 im H w ro a.defers e.df)
    (hl : lexD A ops = true) (h : runOpsX P A call N ops ops.toList e H = some s) : (Code.region id ops true).wpIn (FW ro) n P (After ρ im H w N n0 ro s) a w := by
  have hnorm : ∀ (l : List Oper) (e : Env) (H : Heap) (s : St), runOpsX P A call N ops l e H = some s → s.ex = .norm := by
    intro l
    induction l with
    | nil => intro e H s h; simp [runOpsX] at h; subst h; rfl
    | cons o l ih =>
      intro e H s h
      simp only [runOpsX] at h
      split at h
      · cases h
      · split at h
        · split at h
          · exact ih _ _ _ h
          · cases h
        · exact ih _ _ _ h
        · cases h
  have hex := hnorm _ _ _ _ h
  obtain ⟨ex, e2, H2⟩ := s
  simp only at hex
  subst hex
  simp only [lexD, Bool.and_eq_true, Region.lexB] at hl
  obtain ⟨⟨hns, hlex⟩, hloud⟩ := hl
  refine wpIn_region_any hm ?_
  have hany := anyX_lex (P := P) (A := A) (call := call) (N := N) (E := (e2, H2)) (ops := ops) (fun j k oj hj hkj hno => by
    have hjs : j < ops.size := by
      rcases Nat.lt_or_ge j ops.size with h' | h'
      · exact h'
      · simp [Array.getElem?_eq_none h'] at hj
    have h1 := List.all_eq_true.1 hloud j (by simpa using hjs)
    have h2 := List.all_eq_true.1 h1 k (by simpa using hkj)
    rw [hno, Bool.or_false, Bool.and_eq_true] at h2
    exact ⟨h2.1, by simpa [quietAt, hj] using h2.2⟩) ops.toList 0 (Array.replicate ops.size false) e H (by simp) (by simp) (fun k ok hk hl => by
      have hks : k < ops.size := by
        rcases Nat.lt_or_ge k ops.size with h' | h'
        · exact h'
        · simp [Array.getElem?_eq_none h'] at hk
      simp [hks] at hl) (by simpa using hlex) h
  have hR' : Rel ρ im H w.drew := hR.drew
  have m : Mv ρ im H w ρ im H w.drew := ⟨hR', ImLe.refl _, Tr.drew, fun _ _ _ h => .inl h⟩
  have := wpAny_of_anyX hA hcall (n0 := n0) (ro := ro) (n := n) (Q := After ρ im H w N n0 ro ⟨.norm, e2, H2⟩) ops.size (Array.replicate ops.size false) (s := (e, H)) hR' he (hdf.mv m) (by simpa using hany)
    (fun a' w' haf => haf.mv m)
  exact this
end
end Vm
end
/- A range over a function, in the model: the record of the loop; the statement; the jump that is left. -/
section
set_option linter.unusedVariables false
set_option linter.unusedSimpArgs false
namespace Vm
open Go Go.RowKit

section
variable {P : Program} {A : Ann} {call : CallF} {N : Nat} {ρ : Rho} {im : Im} {H : Heap} {w w' : World} {n : Nat} {a : Act} {e : Env}

def LpOk (ρ : Rho) (n : Nat) (im : Im) (rec : Loop) (l : Lp) : Prop :=
  rec.state = l.st ∧ rec.pending = l.pend ∧ rec.tmps.size = l.N ∧ (∀ i, Rep ρ n im (rec.tmps.getD i undef) (l.tmps i)) ∧ rec.params = l.ps ∧ rec.assign = l.assign ∧ rec.body = l.body
theorem lpOf_some {ob : Ob} {l : Lp} (h : lpOf ob = some l) : ob = .loop l := by
  cases ob <;> simp [lpOf] at h
  subst h; rfl
theorem loop_at (hR : Rel ρ im H w) {r : Nat} {l : Lp} (h : hget H r = .loop l) : r < H.length ∧ live (hget H r) ∧ ∃ rec : Loop, w.heap[(ρ r).b]? = some (.loop rec) ∧ LpOk ρ H.length im rec l := by
  have hr := hget_lt h (fun e => by cases e)
  refine ⟨hr, by rw [h]; trivial, ?_⟩
  have := hR.obj r hr
  rw [h] at this
  obtain ⟨rec, h1, h2⟩ := this
  exact ⟨rec, h1, h2⟩
theorem putObj_other {b r : Nat} {o : Obj} (h : b ≠ r) : (w.putObj r o).heap[b]? = w.heap[b]? := World.putObj_heap_other h
/-- the record of a loop turns -/
theorem Mv.loop (hR : Rel ρ im H w) {r : Nat} {l l' : Lp} (h : hget H r = .loop l) {rec : Loop} (hb : w.heap[(ρ r).b]? = some (.loop rec)) {rec' : Loop} (hl : LpOk ρ H.length im rec' l') :
    Mv ρ im H w ρ im (H.set r (.loop l')) (w.putObj (ρ r).b (.loop rec')) := by
  obtain ⟨hr, hlv, _⟩ := loop_at hR h
  have hlt : (ρ r).b < w.heap.size := (Array.getElem?_eq_some_iff.1 hb).1
  refine ⟨hR.setOb hr hlv (fun b hbn => putObj_other hbn) ⟨rec', World.putObj_heap_same hlt, hl⟩, ImLe.refl _, Tr.setOb hr hlv (fun b hbn => putObj_other hbn) (by simp) rfl rfl rfl, fun _ _ _ h => .inl h⟩
theorem Mv.loopEnd (hR : Rel ρ im H w) {r : Nat} {l : Lp} (h : hget H r = .loop l) (o : Obj) :
    Mv ρ im H w ρ im (H.set r .dead) (w.putObj (ρ r).b o) := by
  obtain ⟨hr, hlv, _⟩ := loop_at hR h
  refine ⟨hR.setOb hr hlv (fun b hbn => putObj_other hbn) trivial, ImLe.refl _, Tr.setOb hr hlv (fun b hbn => putObj_other hbn) (by simp) rfl rfl rfl, fun _ _ _ h => .inl h⟩
/-- the loop is entered -/
theorem Mv.loopNew (hR : Rel ρ im H w) {l : Lp} {rec : Loop} (hl : LpOk ρ H.length im rec l) (o : Obj) :
    Mv ρ im H w (newR ρ H.length ⟨w.heap.size + 1, 0, 0⟩) im (H ++ [.loop l]) ((w.alloc o).alloc (.loop rec)) ∧
      ((w.alloc o).alloc (.loop rec)).heap[w.heap.size]? = some o ∧ unowned (newR ρ H.length ⟨w.heap.size + 1, 0, 0⟩) (H ++ [.loop l]) w.heap.size := by
  have hb : ∀ b, b < w.heap.size → ((w.alloc o).alloc (.loop rec)).heap[b]? = w.heap[b]? := fun b hb => (heap_alloc_lt (by simp; omega)).trans (heap_alloc_lt hb)
  have hw : Rel ρ im H ((w.alloc o).alloc (.loop rec)) := hR.world hb
  have hnew : ((w.alloc o).alloc (.loop rec)).heap[w.heap.size + 1]? = some (.loop rec) := by
    have := heap_alloc_new (w := w.alloc o) (o := .loop rec)
    rwa [World.size_alloc] at this
  refine ⟨⟨hw.push (fun s hs hls => ?_) (fun _ o' => ?_) ⟨rec, hnew, hl.1, hl.2.1, hl.2.2.1, fun i => (hl.2.2.2.1 i).mono (fun r hr => newR_lt hr) (by omega) (ImLe.refl _), hl.2.2.2.2⟩, ImLe.refl _, ?_, fun _ _ _ h => .inl h⟩, ?_, ?_⟩
  · have := hR.block_lt hs hls
    show (ρ s).b ≠ w.heap.size + 1
    omega
  · cases e : im (w.heap.size + 1) o' with
    | none => rfl
    | some v => have := hR.im_lt e; omega
  · have t1 : Tr ρ H w ρ H ((w.alloc o).alloc (.loop rec)) := Tr.world hb (by simp; omega) rfl rfl rfl
    refine ⟨rfl, rfl, rfl, by simp; omega, by simp, fun r hr => newR_lt hr, fun b hb' _ => hb b hb', fun r hr hl hb' => ?_⟩
    simp only [List.length_append, List.length_singleton] at hr
    rcases Nat.lt_succ_iff_lt_or_eq.1 hr with hr' | hr'
    · rw [hget_append_lt hr'] at hl; exact ⟨r, hr', hl, by rw [newR_lt hr']⟩
    · subst hr'; rw [newR_eq] at hb'; simp at hb'; omega
  · have : ((w.alloc o).alloc (.loop rec)).heap[w.heap.size]? = (w.alloc o).heap[w.heap.size]? := heap_alloc_lt (by simp)
    rw [this]; exact heap_alloc_new
  · intro r hr hl e
    simp only [List.length_append, List.length_singleton] at hr
    rcases Nat.lt_succ_iff_lt_or_eq.1 hr with hr' | hr'
    · rw [hget_append_lt hr'] at hl; rw [newR_lt hr'] at e
      have := hR.block_lt hr' hl; omega
    · subst hr'; rw [newR_eq] at e; simp at e

theorem jumpD_ok {c : Code} {s : St} {n0 : Nat} (hR : Rel ρ im H w) (he : EnvR ρ H.length im N a e) (hd : DfR ρ n0 im H w none a.defers e.df) (h : jumpD c e H = some s) : c.wpIn (FW none) n P (After ρ im H w N n0 none s) a w := by
  cases c <;> simp [jumpD] at h <;> subst h
  · exact wpIn_exit (.plain hR he hd (fun d h => by cases h))
  · exact wpIn_ret (.plain hR he hd (fun d h => by cases h))

theorem range_ok (hcall : CallOk P call) {g : Operand} {ps : Array Tmp} {assign body : Code} {k : Nat} : CodeOk P N (runC P A call k N (.rangeFunc g ps assign body)) (.rangeFunc g ps assign body) := by
  intro ρ im H w a e s n0 ro n hR he hd h
  simp only [runC] at h
  obtain ⟨l, h1, h2⟩ := bind_some h
  obtain ⟨df, h3, h4⟩ := bind_some h2
  obtain ⟨rfl, hdl⟩ := hd.r l h1
  have hf := evalO_rep he h3
  cases df <;> simp only at h4 <;> try (cases h4; done)
  rename_i gf cs
  split at h4
  · cases h4
  · rename_i hb
    simp only [not_or, Bool.not_eq_false] at hb
    obtain ⟨hb, hq⟩ := hb
    generalize hv : a.eval g = v at hf
    cases hf with
    | fn _ vs _ hvs =>
      cases hc : call gf (.yld H.length :: cs) (H ++ [.loop ⟨.ready, none, e.f, N, ps, assign, body⟩]) with
      | none => simp [hc] at h4
      | some r =>
        cases r with
        | pan _ _ => simp [hc] at h4
        | ok d2 H2 =>
          simp only [hc] at h4
          refine wpIn_rangeFunc fun fn hfn => ?_
          -- the record
          let rec0 : Loop := { state := .ready, pending := none, fn, tmps := a.tmps, params := ps, assign, body, defers := w.heap.size }
          have hl0 : LpOk ρ H.length im rec0 ⟨.ready, none, e.f, N, ps, assign, body⟩ := ⟨rfl, rfl, he.size, he.get, rfl, rfl, rfl⟩
          obtain ⟨m1, hdb, hun⟩ := Mv.loopNew hR hl0 (.deferred (some []))
          have hrep : RepA (newR ρ H.length ⟨w.heap.size + 1, 0, 0⟩) (H ++ [Ob.loop ⟨.ready, none, e.f, N, ps, assign, body⟩]).length im (.func (.yield (w.heap.size + 1)) #[] #[] :: vs) (.yld H.length :: cs) := by
            refine .cons _ _ _ _ ?_ (m1.repA hvs)
            have := Rep.yld (ρ := newR ρ H.length ⟨w.heap.size + 1, 0, 0⟩) (n := (H ++ [Ob.loop ⟨.ready, none, e.f, N, ps, assign, body⟩]).length) (im := im) H.length (by simp)
            rwa [newR_eq] at this
          have hcalls := (hcall _ _ _ _ hc _ _ _ _ m1.rel hrep).calls hb
          refine ⟨w.heap.size + 1, [{ target := .collected w.heap.size, args := #[] }], _, { target := .fn (.func gf) ⟨vs⟩, args := #[.func (.yield (w.heap.size + 1)) #[] #[]] }, (w.alloc (.deferred (some []))).alloc (.loop rec0), gf, ⟨.func (.yield (w.heap.size + 1)) #[] #[] :: vs⟩, (w.alloc (.deferred (some []))).alloc (.loop rec0), run_enterLoop_outer _ _ _ _ _, ?_, fun _ _ => trivial, ?_, fw_depth, callsIn_fw (hcalls.mono fun en w2 hout => ?_)⟩
          · simp only [resolve, hv]
            simp [Deferred.ofValue]
            exact ⟨rfl, rfl⟩
          · simp only [invoke]
            have : (#[Value.func (.yield (w.heap.size + 1)) #[] #[]] : Array Value) ++ ⟨vs⟩ = ⟨.func (.yield (w.heap.size + 1)) #[] #[] :: vs⟩ := by apply Array.ext'; simp
            rw [this, callFunc_run hb]
          · cases hout with
            | ok ρ2 im2 _ _ v2 _ m2 hv2 =>
              cases hg : hget H2 H.length with
              | loop lp =>
                simp only [hg] at h4
                split at h4
                · cases h4
                · rename_i hbusy
                  obtain ⟨hr2, hlv2, rec, hrec, hlp⟩ := loop_at m2.rel hg
                  have hρ : (ρ2 H.length).b = w.heap.size + 1 := by
                    rw [m2.tr.ext H.length (by simp), newR_eq]
                  rw [hρ] at hrec
                  have m12 := m1.trans m2
                  have m3 := Mv.loopEnd m2.rel hg (.loop { rec with state := .exhausted })
                  rw [hρ] at m3
                  have m := m12.trans m3
                  have hdf : DfR ρ2 n0 im2 (H2.set H.length .dead) (w2.putObj (w.heap.size + 1) (.loop { rec with state := .exhausted })) none ({ target := .collected w.heap.size, args := #[] } :: a.defers) (some (.mark :: l)) := by
                    have hlt : w.heap.size < ((w.alloc (.deferred (some []))).alloc (.loop rec0)).heap.size := by simp; omega
                    have hun2 := hun.mv m2 hlt
                    refine ⟨Nat.le_trans hd.n m.tr.size, fun l' hl' => ⟨rfl, ?_⟩⟩
                    simp at hl'; subst hl'
                    refine .mark w.heap.size _ _ hd.n ?_ (hun2.mv m3 (Nat.lt_of_lt_of_le hlt m2.tr.size)) hq (hdl.mv m)
                    rw [putObj_other (by omega)]
                    exact (m2.tr.keep w.heap.size hlt hun).trans hdb
                  have he' : EnvR ρ2 (H2.set H.length Ob.dead).length im2 N { a with defers := { target := .collected w.heap.size, args := #[] } :: a.defers } ⟨e.f, some (.mark :: l)⟩ := ⟨(m.env he).size, (m.env he).get⟩
                  have hend : (Instr.endLoop (w.heap.size + 1)).run P w2 = .ok lp.pend (w2.putObj (w.heap.size + 1) (.loop { rec with state := .exhausted })) := by
                    rw [← hlp.2.1]; exact run_endLoop hrec (by rw [hlp.1]; exact hbusy)
                  refine ⟨lp.pend, _, hend, ?_⟩
                  cases hp : lp.pend with
                  | none =>
                    simp only [hp] at h4
                    simp at h4; subst h4
                    exact ⟨ρ2, im2, m, he', hdf, .nilIface, rfl, fun d hd => by cases hd⟩
                  | some c =>
                    simp only [hp] at h4
                    exact wpIn_mono (jumpD_ok m.rel he' hdf h4) fun x a' w' haf => haf.mv m
              | _ => simp [hg] at h4
end
end Vm
end
/- Code of the interpreter is the model's; rounds. -/
section
set_option linter.unusedVariables false
set_option linter.unusedSimpArgs false
namespace Vm
open Go Go.RowKit

section
variable {P : Program} {A : Ann} {call : CallF} {N : Nat}

theorem runC_ok (hm : P.follows .mixedOrders = true) (hA : PrimOk P A) (hcall : CallOk P call) (k : Nat) : ∀ (c : Code), CodeOk P N (runC P A call k N c) c
  | .skip => fun ρ im H w a e s n0 ro n hR he hd h => by
    simp [runC] at h; subst h
    exact wpIn_skip (.plain hR he hd (fun d h => by cases h))
  | .label l => fun ρ im H w a e s n0 ro n hR he hd h => by
    simp [runC] at h; subst h
    exact wpIn_label (.plain hR he hd (fun d h => by cases h))
  | .region id ops draw => fun ρ im H w a e s n0 ro n hR he hd h => by
    simp only [runC] at h
    cases draw with
    | true =>
      simp only [if_true] at h
      split at h
      · rename_i hl; exact draw_ok hm hA hcall hR he hd hl h
      · cases h
    | false =>
      simp only [Bool.false_eq_true, if_false] at h
      exact wpIn_region_list (runOps_ok hA hcall ops.toList hR he hd h fun x a' w' haf => haf)
  | .seq x y => fun ρ im H w a e s n0 ro n hR he hd h => by
    simp only [runC] at h
    cases hx : runC P A call k N x e H with
    | none => simp [hx] at h
    | some s1 =>
      refine wpIn_seq (wpIn_mono (runC_ok hm hA hcall k x _ _ _ _ _ _ _ n0 ro n hR he hd hx) fun x1 a1 w1 haf => ?_)
      obtain ⟨ρ1, im1, mv, he1, hd1, v1, hx1, hp1⟩ := haf.ex
      obtain ⟨ex1, e1, H1⟩ := s1
      cases ex1 with
      | norm =>
        simp only [hx] at h
        simp only [exOf] at hx1
        subst hx1
        exact wpIn_mono (runC_ok hm hA hcall k y _ _ _ _ _ _ _ n0 ro n mv.rel he1 hd1 h) fun x2 a2 w2 haf2 => haf2.mv mv
      | _ =>
        simp only [hx] at h
        simp at h; subst h
        simp only [exOf] at hx1
        subst hx1
        exact haf
  | .cond c x y => fun ρ im H w a e s n0 ro n hR he hd h => by
    simp only [runC] at h
    cases hc : evalO e c with
    | none => simp [hc] at h
    | some d =>
      have hv := evalO_rep he hc
      cases d <;> simp [hc] at h
      rename_i b
      have := hv.bool_inv
      cases b
      · exact wpIn_cond_false this (runC_ok hm hA hcall k y _ _ _ _ _ _ _ n0 ro n hR he hd h)
      · exact wpIn_cond_true this (runC_ok hm hA hcall k x _ _ _ _ _ _ _ n0 ro n hR he hd h)
  | .block id b => fun ρ im H w a e s n0 ro n hR he hd h => by
    simp only [runC] at h
    cases hx : runC P A call k N b e H with
    | none => simp [hx] at h
    | some s1 =>
      refine wpIn_block (wpIn_mono (runC_ok hm hA hcall k b _ _ _ _ _ _ _ n0 ro n hR he hd hx) fun x1 a1 w1 haf => ?_)
      obtain ⟨ρ1, im1, mv, he1, hd1, v1, hx1, hp1⟩ := haf.ex
      obtain ⟨ex1, e1, H1⟩ := s1
      cases ex1 with
      | exit i =>
        simp only [hx] at h
        simp only [exOf] at hx1
        subst hx1
        simp only [Exit.inBlock]
        split at h
        · rename_i hi
          simp at h; subst h
          rw [if_pos hi]
          exact ⟨ρ1, im1, mv, he1, hd1, .nilIface, rfl, fun d hd => by cases hd⟩
        · rename_i hi
          simp at h; subst h
          rw [if_neg hi]
          exact haf
      | _ =>
        simp only [hx] at h
        simp at h; subst h
        simp only [exOf] at hx1
        subst hx1
        exact haf
  | .loop b => fun ρ im H w a e s n0 ro n hR he hd h => iterC_ok (runC_ok hm hA hcall k b) k _ _ _ _ _ _ _ n0 ro n hR he hd (by simpa [runC] using h)
  | .rangeFunc _ _ _ _ => range_ok hcall
  | .exit id => fun ρ im H w a e s n0 ro n hR he hd h => by
    simp [runC] at h; subst h
    exact wpIn_exit (.plain hR he hd (fun d h => by cases h))
  | .scope _ => fun ρ im H w a e s n0 ro n hR he hd h => by simp [runC] at h
  | .goto _ => fun ρ im H w a e s n0 ro n hR he hd h => by simp [runC] at h
  | .ret => fun ρ im H w a e s n0 ro n hR he hd h => by
    simp [runC] at h; subst h
    exact wpIn_ret (.plain hR he hd (fun d h => by cases h))
  | .refuse _ => fun ρ im H w a e s n0 ro n hR he hd h => by simp [runC] at h

/-! ### rounds -/
theorem puts_rep {ρ : Rho} {n : Nat} {im : Im} : ∀ {ps : List Tmp} {vs : List Value} {ds : List D} {tm : Array Value} {f : Nat → D} {N : Nat}, RepA ρ n im vs ds → (ps.all fun t => decide (t < N)) = true → tm.size = N → (∀ i, Rep ρ n im (tm.getD i undef) (f i)) →
    ((ps.zip vs).foldl (fun t (p, v) => t.setIfInBounds p v) tm).size = N ∧ ∀ i, Rep ρ n im (((ps.zip vs).foldl (fun t (p, v) => t.setIfInBounds p v) tm).getD i undef) (putsD f (ps.zip ds) i)
  | [], vs, ds, tm, f, N, hr, hp, hs, hf => by simp [putsD]; exact ⟨hs, fun i => by have := hf i; simpa using this⟩
  | p :: ps, _, _, tm, f, N, .nil, hp, hs, hf => by simp [putsD]; exact ⟨hs, fun i => by have := hf i; simpa using this⟩
  | p :: ps, _, _, tm, f, N, .cons v d vs ds hv hr, hp, hs, hf => by
    simp only [List.all_cons, Bool.and_eq_true, decide_eq_true_eq] at hp
    simp only [List.zip_cons_cons, List.foldl_cons, putsD]
    refine puts_rep hr hp.2 (by simpa using hs) fun i => ?_
    by_cases hi : i = p
    · subst hi
      simpa [Array.getD_eq_getD_getElem?, hs, hp.1] using hv
    · have := hf i
      simpa [Array.getD_eq_getD_getElem?, Array.getElem?_setIfInBounds_ne (Ne.symm hi), hi] using this
theorem roundD_ok {run : Nat → Code → Env → Heap → Option St} (hrun : ∀ N c, CodeOk P N (run N c) c) {r : Nat} {args : List D} {H : Heap} {res : R} (h : roundD run r args H = some res) {ρ : Rho} {im : Im} {w : World} {vs : List Value}
    (hR : Rel ρ im H w) (hargs : RepA ρ H.length im vs args) :
    ∃ fn tmps assign body, (Instr.yield (ρ r).b ⟨vs⟩).run P w = .ok (.round (ρ r).b fn tmps assign body) w ∧ ∀ ro n, RoundIn (FW ro) n P (ρ r).b fn tmps assign body w (OutR ρ im H w res) := by
  unfold roundD at h
  obtain ⟨lp, h1, h2⟩ := bind_some h
  have hg := lpOf_some h1
  obtain ⟨hr, hlv, rec, hrec, hst, hpe, htm, hrep, hps, has, hbo⟩ := loop_at hR hg
  split at h2
  · rename_i hc
    obtain ⟨hready, hlen, hall⟩ := hc
    obtain ⟨s1, h3, h4⟩ := bind_some h2
    obtain ⟨x1, e1, H1⟩ := s1
    cases x1 <;> simp only at h4 <;> try (cases h4; done)
    obtain ⟨l1, h5, h6⟩ := bind_some h4
    have hg1 := lpOf_some h5
    split at h6
    · rename_i hready1
      obtain ⟨s2, h7, h8⟩ := bind_some h6
      obtain ⟨j, h9, h10⟩ := bind_some h8
      obtain ⟨l2, h11, h12⟩ := bind_some h10
      have hg2 := lpOf_some h11
      simp at h12; subst h12
      have hvl : vs.length = args.length := hargs.length
      have hy := run_yield (P := P) (args := ⟨vs⟩) hrec (by rw [hps]; simpa [hvl] using hlen)
      refine ⟨rec.fn, _, rec.assign, rec.body, hy, fun ro n => ?_⟩
      have hzip : (rec.params.zip ⟨vs⟩).foldl (fun tmps (t, a) => tmps.setIfInBounds t a) rec.tmps = (lp.ps.toList.zip vs).foldl (fun t (p, v) => t.setIfInBounds p v) rec.tmps := by
        rw [hps, ← Array.foldl_toList, Array.toList_zip]
      rw [hzip]
      obtain ⟨hs1, hs2⟩ := puts_rep (ps := lp.ps.toList) hargs hall htm hrep
      have hF : (FW ro).fn rec.fn := trivial
      refine roundIn_of_wpIn hF ?_
      rw [has]
      have hd0 : DfR ρ 0 im H w (some (ρ r).b) [] (none : Option (List Dfr)) := ⟨Nat.zero_le _, fun l hl => by cases hl⟩
      have ha := hrun lp.N lp.assign ρ im H w { tmps := (lp.ps.toList.zip vs).foldl (fun t (p, v) => t.setIfInBounds p v) rec.tmps, defers := [] } ⟨putsD lp.tmps (lp.ps.toList.zip args), none⟩ _ 0 (some (ρ r).b) n hR ⟨hs1, hs2⟩ hd0 h3
      refine wpIn_mono ha fun x a1 w1 haf => ?_
      obtain ⟨ρ1, im1, m1, he1, hd1, v1, hx1, _⟩ := haf.ex
      simp only [exOf] at hx1
      subst hx1
      simp only [Exit.then]
      obtain ⟨hr1, hlv1, rec1, hrec1, hlp1⟩ := loop_at m1.rel hg1
      have hρ1 : ρ1 r = ρ r := m1.tr.ext r hr
      rw [hρ1] at hrec1
      refine ⟨_, run_beginRound hrec1 (by rw [hlp1.1]; exact hready1), ?_⟩
      have m2 := Mv.loop m1.rel hg1 (rec := rec1) (by rw [hρ1]; exact hrec1) (rec' := { rec1 with state := .busy }) (l' := { l1 with st := .busy }) ⟨rfl, hlp1.2⟩
      rw [hρ1] at m2
      rw [hbo]
      have hb := hrun lp.N lp.body ρ1 im1 _ _ a1 e1 _ 0 (some (ρ r).b) n m2.rel (m2.env he1) (hd1.mv m2) h7
      refine wpIn_mono hb fun x a2 w2 haf2 => ?_
      obtain ⟨ρ2, im2, m3, he2, hd2, v2, hx2, _⟩ := haf2.ex
      obtain ⟨hr2, hlv2, rec2, hrec2, hlp2⟩ := loop_at m3.rel hg2
      have hρ2 : ρ2 r = ρ r := by rw [m3.tr.ext r (by simp; exact hr1), hρ1]
      rw [hρ2] at hrec2
      have m4 := Mv.loop m3.rel hg2 (rec := rec2) (by rw [hρ2]; exact hrec2) (rec' := { rec2 with state := if j.isNone then .ready else .done, pending := j }) (l' := { l2 with st := if j.isNone then .ready else .done, pend := j }) ⟨rfl, rfl, hlp2.2.2⟩
      rw [hρ2] at m4
      have hend := run_endRound (P := P) j hrec2
      have m := ((m1.trans m2).trans m3).trans m4
      have hout : OutR ρ im H w (.ok (.bool j.isNone) (s2.H.set r (.loop { l2 with st := if j.isNone then .ready else .done, pend := j }))) (.returned (.bool j.isNone)) _ := .ok ρ2 im2 _ _ _ _ m (.bool _)
      cases hx : s2.ex with
      | norm => rw [hx] at h9 hx2; simp [leftD] at h9; subst h9; simp only [exOf] at hx2; subst hx2; exact ⟨_, _, hend, hout⟩
      | ret => rw [hx] at h9 hx2; simp [leftD] at h9; subst h9; simp only [exOf] at hx2; subst hx2; exact ⟨_, _, hend, hout⟩
      | exit id => rw [hx] at h9 hx2; simp [leftD] at h9; subst h9; simp only [exOf] at hx2; subst hx2; exact ⟨_, _, hend, hout⟩
      | pan d => rw [hx] at h9; simp [leftD] at h9
    · cases h6
  · cases h2
end
end Vm
end
/- A call that the interpreter makes is the model's call. -/
section
set_option linter.unusedVariables false
set_option linter.unusedSimpArgs false
namespace Vm
open Go Go.RowKit

section
variable {P : Program} {A : Ann} {ρ : Rho} {im : Im} {H : Heap} {w : World} {n N : Nat} {a : Act} {e : Env}

theorem getD_append_undef (vs : List Value) (m i : Nat) : ((⟨vs⟩ : Array Value) ++ Array.replicate m undef).getD i undef = vs.getD i undef := by
  rw [Array.getD_eq_getD_getElem?, Array.getElem?_append, List.getD_eq_getElem?_getD]
  split
  · rename_i h; simp
  · rename_i h
    simp at h
    rw [List.getElem?_eq_none h, Array.getElem?_replicate]
    split <;> rfl
theorem repA_getD : ∀ {vs : List Value} {ds : List D}, RepA ρ n im vs ds → ∀ i, Rep ρ n im (vs.getD i undef) (ds.getD i ud)
  | _, _, .nil, i => by simp; exact rep_ud
  | _, _, .cons v d vs ds h hr, 0 => by simpa using h
  | _, _, .cons v d vs ds h hr, i + 1 => by simpa using repA_getD hr i
theorem env_enter {vs : List Value} {ds : List D} (h : RepA ρ n im vs ds) (hN : ds.length ≤ N) : EnvR ρ n im N { tmps := ⟨vs⟩ ++ Array.replicate (N - (⟨vs⟩ : Array Value).size) undef, defers := [] } (ofArgs ds) := by
  have hl := h.length
  refine ⟨by simp; omega, fun i => ?_⟩
  show Rep ρ n im ((⟨vs⟩ ++ Array.replicate (N - (⟨vs⟩ : Array Value).size) undef : Array Value).getD i undef) (ofArgs ds i)
  rw [getD_append_undef]
  exact repA_getD h i

theorem loadVar_of {t : TypeId} {pv v : Value} (h : (Instr.loadAt t pv).run P w = .ok v w) (hp : ∃ x, pv = .pointer (some x)) : ((do loadVar t (← asAddr pv) : Sem Value)).run P w = .ok v w := by
  obtain ⟨x, rfl⟩ := hp
  simpa [Instr.loadAt, Instr.sureAddr, asAddr] using h
theorem resD_run (hR : Rel ρ im H w) (he : EnvR ρ H.length im N a e) : ∀ {rs : List ResultVar} {l : List D}, resD P e H rs = some l →
    ∃ vs, (rs.mapM (fun (r : ResultVar) => (match r with | .tmp t => pure (a.tmps.getD t undef) | .cell x t => do loadVar t (← asAddr (a.tmps.getD x undef)) : Sem Value))).run P w = .ok vs w ∧ RepA ρ H.length im vs l
  | [], l, h => by simp [resD] at h; subst h; exact ⟨[], by simp, .nil⟩
  | .tmp t :: r, l, h => by
    simp only [resD] at h
    obtain ⟨l', h1, rfl⟩ := map_some h
    obtain ⟨vs, g1, g2⟩ := resD_run hR he h1
    exact ⟨_ :: vs, by simp only [List.mapM_cons, Sem.run_bind, Sem.run_pure, Result.andThen_ok, g1], .cons _ _ _ _ (he.get t) g2⟩
  | .cell x t :: r, l, h => by
    simp only [resD] at h
    obtain ⟨d, h1, h2⟩ := bind_some h
    obtain ⟨l', h3, rfl⟩ := map_some h2
    obtain ⟨vs, g1, g2⟩ := resD_run hR he h3
    obtain ⟨v, g3, g4⟩ := loadD_run (P := P) hR (he.get x) h1
    have hp : ∃ y, a.tmps.getD x undef = .pointer (some y) := by
      have := he.get x
      generalize hv : a.tmps.getD x undef = v at this
      cases hx : e x with
      | ptr _ _ _ => rw [hx] at this; cases this; exact ⟨_, rfl⟩
      | ept _ _ => rw [hx] at this; cases this; exact ⟨_, rfl⟩
      | _ => rw [hx] at h1; simp [loadD] at h1
    have g5 := loadVar_of g3 hp
    refine ⟨v :: vs, ?_, .cons _ _ _ _ g4 g2⟩
    simp only [List.mapM_cons, Sem.run_bind] at g5 ⊢
    simp only [g5, Result.andThen_ok, g1, Sem.run_pure]
theorem results_run {fn : Func} (hR : Rel ρ im H w) (he : EnvR ρ H.length im N a e) {l : List D} (h : resD P e H fn.results.toList = some l) : ∃ v, (results fn a.tmps).run P w = .ok v w ∧ Rep ρ H.length im v (oneD l) := by
  obtain ⟨vs, h1, h2⟩ := resD_run hR he h
  have e0 : results fn a.tmps = (do
      let vs ← fn.results.mapM (fun (r : ResultVar) => (match r with | .tmp t => pure (a.tmps.getD t undef) | .cell x t => do loadVar t (← asAddr (a.tmps.getD x undef)) : Sem Value))
      pure (if h : vs.size = 1 then vs[0] else .tuple vs)) := rfl
  rw [e0]
  have hm : (fn.results.mapM (fun (r : ResultVar) => (match r with | .tmp t => pure (a.tmps.getD t undef) | .cell x t => do loadVar t (← asAddr (a.tmps.getD x undef)) : Sem Value))).run P w = .ok vs.toArray w := by
    rw [Array.mapM_eq_mapM_toList]
    simp only [Sem.run_map, h1, Result.andThen_ok]
  simp only [Sem.run_bind]
  rw [hm]
  simp only [Result.andThen_ok, Sem.run_pure]
  refine ⟨_, rfl, ?_⟩
  have hlen := h2.length
  match vs, l, h2 with
  | [], [], h2 => simpa [oneD] using Rep.tup [] [] h2
  | [v], [d], .cons _ _ _ _ hv _ => simpa [oneD] using hv
  | v :: u :: vs, d :: f :: l, h2 => simpa [oneD] using Rep.tup _ _ h2

/-! ### how a function is left -/
inductive MdR (ρ : Rho) (n : Nat) (im : Im) : FrameMode → Md → Prop
  | ret : MdR ρ n im .returning .ret
  | pan (v : Value) (d : D) (h : Rep ρ n im v d) : MdR ρ n im (.panicking [{ v, recovered := false }]) (.pan d)
  | rcv (v : Value) (d : D) (h : Rep ρ n im v d) : MdR ρ n im (.panicking [{ v, recovered := true }]) (.rcv d)
theorem MdR.mv {ρ1 : Rho} {im1 : Im} {H1 : Heap} {w1 : World} {u : FrameMode} {m : Md} (h : MdR ρ H.length im u m) (k : Mv ρ im H w ρ1 im1 H1 w1) : MdR ρ1 H1.length im1 u m := by
  cases h with
  | ret => exact .ret
  | pan v d h => exact .pan v d (k.rep h)
  | rcv v d h => exact .rcv v d (k.rep h)
theorem MdR.settle {u : FrameMode} {m : Md} (h : MdR ρ n im u m) : MdR ρ n im (Go.settle u) m.settle := by
  cases h with
  | ret => exact .ret
  | pan v d h => exact .pan v d h
  | rcv v d h => exact .ret
theorem MdR.run {u : FrameMode} {m : Md} (h : MdR ρ n im u m) : u ≠ .run := by cases h <;> exact fun e => by cases e
theorem recD_ok {u : FrameMode} {m : Md} (h : MdR ρ n im u m) (c₀ : Frame) (cs : List Frame) :
    (match recoverD ({ c₀ with mode := u } :: cs) with
      | some (v, cs') => Rep ρ n im v (recD m).1 ∧ ∃ u', cs' = { c₀ with mode := u' } :: cs ∧ MdR ρ n im u' (recD m).2
      | none => (recD m) = (.nili, m)) := by
  cases h with
  | ret => simp [recoverD, recD]
  | pan v d h => simp only [recoverD]; exact ⟨h, _, rfl, .rcv v d h⟩
  | rcv v d h => simp [recoverD, recD]
theorem plain_run {ρe : Operand → Value} {o : Oper} (h : plainO o.op = true) {y : Next} {w' : World} (hr : (execOp ρe o).run P w = .ok y w') : (∃ v, y = .value v) ∨ y = .skip := by
  have vl : ∀ {s : Sem Value}, ((do pure (.value (← s)) : Sem Next)).run P w = .ok y w' → ∃ v, y = .value v := fun {s} h => by
    simp only [Sem.run_bind] at h
    cases hs : s.run P w with
    | ok v w1 => simp [hs] at h; exact ⟨v, h.1.symm⟩
    | halt _ _ => simp [hs] at h
  have sk : ∀ {s : Sem Unit}, ((do s; pure .skip : Sem Next)).run P w = .ok y w' → y = .skip := fun {s} h => by
    simp only [Sem.run_bind] at h
    cases hs : s.run P w with
    | ok v w1 => simp [hs] at h; exact h.1.symm
    | halt _ _ => simp [hs] at h
  cases ho : o.op <;> rw [ho] at h <;> simp only [plainO] at h <;> first | (cases h; done) | skip
  all_goals simp only [execOp, ho] at hr
  case move => simp at hr; exact .inl ⟨_, hr.1.symm⟩
  case assign => simp at hr; exact .inl ⟨_, hr.1.symm⟩
  case pick c x y' =>
    left
    simp only [Sem.run_bind] at hr
    cases hs : (asBool (ρe c)).run P w with
    | ok v w1 => simp [hs] at hr; exact ⟨_, hr.1.symm⟩
    | halt _ _ => simp [hs] at hr
  case store => exact .inr (sk hr)
  all_goals exact .inl (vl hr)

/-- what holds behind code of a call that waited -/
structure AfterS (ρ : Rho) (im : Im) (H : Heap) (w : World) (N : Nat) (n0 : Nat) (c₀ : Frame) (cs : List Frame) (s : St) (m : Md) (x : Exit) (a' : Act) (cs' : List Frame) (w' : World) : Prop where
  ex : ∃ ρ' im' u', cs' = { c₀ with mode := u' } :: cs ∧ Mv ρ im H w ρ' im' s.H w' ∧ EnvR ρ' s.H.length im' N a' s.e ∧ DfR ρ' n0 im' s.H w' none a'.defers s.e.df ∧ MdR ρ' s.H.length im' u' m ∧
    ∃ v, x = exOf v s.ex ∧ ∀ d, s.ex = .pan d → Rep ρ' s.H.length im' v d
theorem AfterS.mv {ρ1 : Rho} {im1 : Im} {H1 : Heap} {w1 : World} {n0 : Nat} {c₀ : Frame} {cs : List Frame} {s : St} {m : Md} {x : Exit} {a' : Act} {cs' : List Frame} {w' : World} (k : Mv ρ im H w ρ1 im1 H1 w1) (h : AfterS ρ1 im1 H1 w1 N n0 c₀ cs s m x a' cs' w') :
    AfterS ρ im H w N n0 c₀ cs s m x a' cs' w' := by
  obtain ⟨ρ', im', u', h1, h2, h3⟩ := h.ex
  exact ⟨ρ', im', u', h1, k.trans h2, h3⟩
theorem recover_run {ρe : Operand → Value} {o : Oper} (h : recoverC o.op = true) (w : World) : (execOp ρe o).run P w = .ok .recover w := by
  cases ho : o.op <;> rw [ho] at h <;> simp [recoverC] at h
  rename_i c
  cases hc : c.callee <;> simp [hc] at h
  rename_i b
  cases b <;> simp at h
  simp only [execOp, ho, resolve, hc, Sem.run_bind, Sem.run_pure, Result.andThen_ok, invoke]
  simp [builtin]
theorem runOpsS_ok (hA : PrimOk P A) {n0 : Nat} {n : Nat} {ops : Array Oper} {c₀ : Frame} {cs : List Frame} {Q : Exit → Act → List Frame → World → Prop} : ∀ (l : List Oper) (k : Nat) {ρ : Rho} {im : Im} {H : Heap} {w : World} {a : Act} {e : Env} {m : Md} {u : FrameMode} {e' : Env} {H' : Heap} {m' : Md},
    (∀ j, l[j]? = ops[k + j]?) → Rel ρ im H w → EnvR ρ H.length im N a e → DfR ρ n0 im H w none a.defers e.df → MdR ρ H.length im u m → runOpsS P A N ops l e H m = some (e', H', m') →
    (∀ x a' cs' w', AfterS ρ im H w N n0 c₀ cs ⟨.norm, e', H'⟩ m' x a' cs' w' → Q x a' cs' w') → wpOpsSIn (FW none) n P ops Q (List.range' k l.length) a ({ c₀ with mode := u } :: cs) w
  | [], k, ρ, im, H, w, a, e, m, u, e', H', m', hl, hR, he, hd, hm, h, hQ => by
    simp [runOpsS] at h
    obtain ⟨rfl, rfl, rfl⟩ := h
    exact hQ _ _ _ _ ⟨ρ, im, u, rfl, Mv.refl hR, he, hd, hm, .nilIface, rfl, fun d hd => by cases hd⟩
  | o :: rest, k, ρ, im, H, w, a, e, m, u, e', H', m', hl, hR, he, hd, hm, h, hQ => by
    have ho : ops[k]? = some o := by simpa using (hl 0).symm
    have hl' : ∀ j, rest[j]? = ops[k + 1 + j]? := fun j => by have := hl (j + 1); simpa [Nat.add_assoc, Nat.add_comm 1 j] using this
    simp only [List.length_cons, List.range'_succ, wpOpsSIn, ho]
    simp only [runOpsS] at h
    refine ⟨fun _ _ => trivial, ?_⟩
    split at h
    · cases h
    · rename_i hdst
      simp only [Bool.not_eq_false] at hdst
      cases hw : wantD ops e o with
      | none => simp [hw] at h
      | some b =>
        have hwant := yielded_wantD he hw
        rw [hwant]
        cases b with
        | false =>
          simp only [hw] at h
          simp only [Bool.false_eq_true, if_false]
          exact runOpsS_ok hA rest (k + 1) hl' hR (he.put hdst rep_ud) (by rw [put_defers, putO_df]; exact hd) hm h hQ
        | true =>
          simp only [hw] at h
          simp only [if_true]
          split at h
          · rename_i hrec
            rw [recover_run hrec w]
            have hrr := recD_ok hm c₀ cs
            cases hrd : recoverD ({ c₀ with mode := u } :: cs) with
            | none =>
              rw [hrd] at hrr
              simp only at hrr ⊢
              rw [hrr] at h
              exact runOpsS_ok hA rest (k + 1) hl' hR (he.put hdst .nili) (by rw [put_defers, putO_df]; exact hd) hm h hQ
            | some q =>
              obtain ⟨v, cs'⟩ := q
              rw [hrd] at hrr
              obtain ⟨hv, u', rfl, hm'⟩ := hrr
              exact runOpsS_ok hA rest (k + 1) hl' hR (he.put hdst hv) (by rw [put_defers, putO_df]; exact hd) hm' h hQ
          · split at h
            · cases h
            · rename_i hpl
              simp only [Bool.not_eq_false] at hpl
              cases hs : stepOp P A (fun _ _ _ => none) o.op e H with
              | none => simp [hs] at h
              | some r =>
                cases r with
                | pan _ _ => simp [hs] at h
                | ok d H1 =>
                  simp only [hs] at h
                  have hop := stepOp_ok hA (fun _ _ _ _ hc => by cases hc) (o := o) hR he hs none n (fun a' w' => ∃ v, OutR ρ im H w (.ok d H1) (.returned v) w' ∧ a' = a.put o.dst v) (fun _ _ _ => False) (fun v w' hout => ⟨v, hout, rfl⟩) (fun ch w' hout => by cases hout)
                  have hun := hop.2
                  simp only [FW, Oper.semAt_none] at hun
                  have next : ∀ {v : Value} {w1 : World}, OutR ρ im H w (.ok d H1) (.returned v) w1 → wpOpsSIn (FW none) n P ops Q (List.range' (k + 1) rest.length) (a.put o.dst v) ({ c₀ with mode := u } :: cs) w1 := fun {v w1} hout => by
                    cases hout with
                    | ok ρ1 im1 _ _ _ _ hmv hv =>
                      exact runOpsS_ok hA rest (k + 1) hl' hmv.rel ((hmv.env he).put hdst hv) (by rw [put_defers, putO_df]; exact hd.mv hmv) (hm.mv hmv) h fun x a' cs' w' haf => hQ x a' cs' w' (haf.mv hmv)
                  cases hrun : (execOp a.eval o).run P w with
                  | halt x w1 =>
                    rw [hrun] at hun
                    cases x <;> exact hun.elim
                  | ok y w1 =>
                    rw [hrun] at hun
                    rcases plain_run hpl hrun with ⟨v, rfl⟩ | rfl
                    · obtain ⟨v', hout, hput⟩ := (hun : ∃ v', OutR ρ im H w (.ok d H1) (.returned v') w1 ∧ a.put o.dst v = a.put o.dst v')
                      show wpOpsSIn (FW none) n P ops Q (List.range' (k + 1) rest.length) (a.put o.dst v) _ w1
                      rw [hput]
                      exact next hout
                    · obtain ⟨v', hout, hput⟩ := (hun : ∃ v', OutR ρ im H w (.ok d H1) (.returned v') w1 ∧ a.put o.dst undef = a.put o.dst v')
                      show wpOpsSIn (FW none) n P ops Q (List.range' (k + 1) rest.length) (a.put o.dst undef) _ w1
                      rw [hput]
                      exact next hout
end
end Vm
end
/- A call that the interpreter makes is the model's call: deferred calls, rounds and all. -/
section
set_option linter.unusedVariables false
set_option linter.unusedSimpArgs false
namespace Vm
open Go Go.RowKit

section
variable {P : Program} {A : Ann} {ρ : Rho} {im : Im} {H : Heap} {w : World} {n N : Nat} {a : Act} {e : Env}

theorem runS_ok (hA : PrimOk P A) {run : Code → Env → Heap → Option St} (hrun : ∀ c, CodeOk P N (run c) c) {n0 : Nat} {c₀ : Frame} {cs : List Frame} : ∀ (c : Code) {ρ : Rho} {im : Im} {H : Heap} {w : World} {a : Act} {e : Env} {m : Md} {u : FrameMode} {s : St} {m' : Md},
    Rel ρ im H w → EnvR ρ H.length im N a e → DfR ρ n0 im H w none a.defers e.df → MdR ρ H.length im u m → runS P A N run c e H m = some (s, m') →
    c.wpSIn (FW none) n P (AfterS ρ im H w N n0 c₀ cs s m') a ({ c₀ with mode := u } :: cs) w := by
  have other : ∀ (c : Code) {ρ : Rho} {im : Im} {H : Heap} {w : World} {a : Act} {e : Env} {m : Md} {u : FrameMode} {s : St} {m' : Md},
      Rel ρ im H w → EnvR ρ H.length im N a e → DfR ρ n0 im H w none a.defers e.df → MdR ρ H.length im u m → (run c e H).map (fun s => (s, m)) = some (s, m') →
      c.wpSIn (FW none) n P (AfterS ρ im H w N n0 c₀ cs s m') a ({ c₀ with mode := u } :: cs) w := by
    intro c ρ im H w a e m u s m' hR he hd hm h
    obtain ⟨s1, h1, h2⟩ := map_some h
    simp at h2
    obtain ⟨rfl, rfl⟩ := h2
    refine wpSIn_of_wpIn rfl (wpIn_mono (hrun c _ _ _ _ _ _ _ n0 none n hR he hd h1) fun x a' w' haf => ?_)
    obtain ⟨ρ', im', g1, g2, g3, g4⟩ := haf.ex
    exact ⟨ρ', im', u, rfl, g1, g2, g3, hm.mv g1, g4⟩
  intro c
  induction c with
  | seq x y ihx ihy =>
    intro ρ im H w a e m u s m' hR he hd hm h
    simp only [runS] at h
    obtain ⟨⟨⟨x1, e1, H1⟩, m1⟩, h1, h2⟩ := bind_some h
    have hx := ihx hR he hd hm h1
    refine wpSIn_seq ?_
    have mono : ∀ {c : Code} {Q Q' : Exit → Act → List Frame → World → Prop} {a : Act} {cs : List Frame} {w : World}, c.wpSIn (FW none) n P Q a cs w → (∀ x a' cs' w', Q x a' cs' w' → Q' x a' cs' w') → c.wpSIn (FW none) n P Q' a cs w := fun h k b kk h1 h2 h3 h4 =>
      let ⟨e, a', cs', w', l, q, r⟩ := h b kk h1 h2 h3 h4; ⟨e, a', cs', w', l, k _ _ _ _ q, r⟩
    refine mono hx fun x a1 cs1 w1 haf => ?_
    obtain ⟨ρ1, im1, u1, rfl, g1, g2, g3, g4, v1, hx1, hp1⟩ := haf.ex
    cases x1 with
    | norm =>
      simp only [exOf] at hx1
      subst hx1
      simp only at h2
      simp only [Exit.thenS]
      exact mono (ihy g1.rel g2 g3 g4 h2) fun x a' cs' w' haf2 => haf2.mv g1
    | exit i =>
      simp only [exOf] at hx1; subst hx1
      simp at h2; obtain ⟨rfl, rfl⟩ := h2
      exact haf
    | ret =>
      simp only [exOf] at hx1; subst hx1
      simp at h2; obtain ⟨rfl, rfl⟩ := h2
      exact haf
    | pan d =>
      simp only [exOf] at hx1; subst hx1
      simp at h2; obtain ⟨rfl, rfl⟩ := h2
      exact haf
  | cond c x y ihx ihy =>
    intro ρ im H w a e m u s m' hR he hd hm h
    simp only [runS] at h
    cases hc : evalO e c with
    | none => simp [hc] at h
    | some d =>
      have hv := evalO_rep he hc
      cases d <;> simp [hc] at h
      rename_i b
      have := hv.bool_inv
      cases b
      · exact wpSIn_cond this (ihy hR he hd hm h)
      · exact wpSIn_cond this (ihx hR he hd hm h)
  | region id ops draw =>
    intro ρ im H w a e m u s m' hR he hd hm h
    simp only [runS] at h
    split at h
    · rename_i hq
      obtain ⟨hdr, _⟩ := hq
      subst hdr
      obtain ⟨⟨e', H', m1⟩, h1, h2⟩ := map_some h
      simp at h2
      obtain ⟨rfl, rfl⟩ := h2
      refine wpSIn_region ?_
      have := runOpsS_ok hA (n := n) (c₀ := c₀) (cs := cs) (Q := AfterS ρ im H w N n0 c₀ cs ⟨.norm, e', H'⟩ m1) ops.toList 0 (fun j => by simp) hR he hd hm h1 (fun x a' cs' w' haf => haf)
      rw [List.range_eq_range']
      simpa using this
    · exact other _ hR he hd hm h
  | _ =>
    intro ρ im H w a e m u s m' hR he hd hm h
    exact other _ hR he hd hm (by simpa only [runS] using h)

theorem lastD_ok (hA : PrimOk P A) {run : Nat → Code → Env → Heap → Option St} (hrun : ∀ N c, CodeOk P N (run N c) c) {f : FuncId} {args : List D} {m m' : Md} {H' : Heap} {vs : List Value} {u : FrameMode} (h : lastD P A run f args m H = some (m', H'))
    (hR : Rel ρ im H w) (hargs : RepA ρ H.length im vs args) (hm : MdR ρ H.length im u m) :
    bodied P f = true ∧ CallsDIn (FW none) n P f ⟨vs⟩ u w fun en u' w' => ∃ v ρ' im', en = .returned v ∧ Mv ρ im H w ρ' im' H' w' ∧ MdR ρ' H'.length im' (Go.settle u') m' := by
  unfold lastD at h
  cases hf : P.funcs[f]? with
  | none => simp [hf] at h
  | some fn =>
    simp only [hf] at h
    cases hb : fn.body with
    | none => simp [hb] at h
    | some c =>
      simp only [hb] at h
      split at h
      · cases h
      · rename_i hcond
        simp only [Bool.or_eq_true, decide_eq_true_eq, not_or, Nat.not_lt] at hcond
        refine ⟨by simp [bodied, hf, hb]; simpa using hcond.1, ?_⟩
        obtain ⟨⟨s, m1⟩, h1, h2⟩ := bind_some h
        have he := env_enter hargs hcond.2
        refine callsDIn_of_wpSIn hf hb trivial fun c₀ cs hu => ?_
        have hd : DfR ρ w.heap.size im H w none [] (ofArgs args).df := ⟨Nat.le_refl _, fun l hl => ⟨rfl, by simp [ofArgs] at hl; subst hl; exact .nil⟩⟩
        have hc₀ : ({ c₀ with mode := u } : Frame) = c₀ := by subst hu; rfl
        have hs := runS_ok (n := n) hA (hrun fn.ntmps) (c₀ := c₀) (cs := cs) c hR he hd hm h1
        rw [hc₀] at hs
        intro b kk g1 g2 g3 g4
        obtain ⟨x, a', cs', w', hl, haf, harr⟩ := hs b kk g1 g2 g3 g4
        refine ⟨x, a', cs', w', hl, ?_, harr⟩
        obtain ⟨ρ1, im1, u1, rfl, k1, k2, k3, k4, v1, hx1, hp1⟩ := haf.ex
        obtain ⟨x1, e1, H1⟩ := s
        have fin : ∀ {x1 : Ex}, (if noDf e1.df = true ∧ (resD P e1 H1 fn.results.toList).isSome = true then some (m1.settle, H1) else none) = some (m', H') →
            a'.defers = [] ∧ ∃ u', ({ c₀ with mode := u1 } : Frame) :: cs = { c₀ with mode := u' } :: cs ∧ ∃ v, (results fn a'.tmps).run P w' = .ok v w' ∧ ∃ v' ρ' im', Ending.returned v = .returned v' ∧ Mv ρ im H w ρ' im' H' w' ∧ MdR ρ' H'.length im' (Go.settle u') m' := by
          intro x1 h2
          split at h2
          · rename_i hcc
            simp at h2
            obtain ⟨rfl, rfl⟩ := h2
            obtain ⟨hdf, hres⟩ := hcc
            have hnil : e1.df = some [] := by
              cases hq : e1.df with
              | none => simp [hq, noDf] at hdf
              | some l => cases l with
                | nil => rfl
                | cons _ _ => simp [hq, noDf] at hdf
            have hdl := (k3.r [] hnil).2
            have hdn : a'.defers = [] := by
              generalize a'.defers = ds at hdl
              cases hdl; rfl
            cases hrs : resD P e1 H1 fn.results.toList with
            | none => simp [hrs] at hres
            | some l =>
              obtain ⟨v', g1, g2⟩ := results_run k1.rel k2 hrs
              exact ⟨hdn, u1, rfl, v', g1, v', ρ1, im1, rfl, k1, k4.settle⟩
          · cases h2
        cases x1 with
        | norm => simp only [exOf] at hx1; subst hx1; exact fin (x1 := .norm) h2
        | ret => simp only [exOf] at hx1; subst hx1; exact fin (x1 := .ret) h2
        | exit i => simp at h2
        | pan d => simp at h2

theorem Mv.shut {ρ1 : Rho} {im1 : Im} {H1 : Heap} {w1 : World} {b : Nat} {ds : Option (List Deferred)} (m : Mv ρ im H w ρ1 im1 H1 w1) (hb : w.heap.size ≤ b) (ho : w1.heap[b]? = some (.deferred ds)) (hu : unowned ρ1 H1 b) (o : Obj) : Mv ρ im H w ρ1 im1 H1 (w1.putObj b o) := by
  have hother : ∀ b', b' ≠ b → (w1.putObj b o).heap[b']? = w1.heap[b']? := fun b' hb' => putObj_other hb'
  refine ⟨⟨fun b' o' v hv => ?_, fun r hr => ?_, m.rel.sep, m.rel.own⟩, m.le, ⟨m.tr.os, m.tr.tape, m.tr.output, by simpa using m.tr.size, m.tr.len, m.tr.ext, fun b' hb' hn => ?_, m.tr.own⟩, m.nu⟩
  · have hne : b' ≠ b := fun e => by
      subst e
      have := m.rel.imc _ _ _ hv
      simp [World.cell?, ho] at this
    rw [cell?_congr (hother b' hne)]
    exact m.rel.imc _ _ _ hv
  · exact (m.rel.obj r hr).mono (fun _ _ => rfl) (Nat.le_refl _) (ImLe.refl _) (fun hl => hother _ (hu r hr hl))
  · rw [hother b' (by omega)]
    exact m.tr.keep b' hb' hn
theorem DfL.world {n0 : Nat} {w w' : World} : ∀ {ds : List Deferred} {l : List Dfr}, DfL ρ n0 im H w ds l → l.all callQ = true → DfL ρ n0 im H w' ds l
  | _, _, .nil, _ => .nil
  | _, _, .call g vs us ds l l' h hr, hq => .call g vs us ds l l' h (DfL.world hr (by simpa [callQ] using hq))
  | _, _, .mark b l l' hb ho hu hm hr, hq => by simp [callQ] at hq

theorem leave_ok (hA : PrimOk P A) {run : Nat → Code → Env → Heap → Option St} (hrun : ∀ N c, CodeOk P N (run N c) c) {fn : Func} {r : R} : ∀ (l : List Dfr) {m : Md} {H1 : Heap} {ρ1 : Rho} {im1 : Im} {w1 : World} {ds : List Deferred} {u : FrameMode},
    Mv ρ im H w ρ1 im1 H1 w1 → EnvR ρ1 H1.length im1 N a e → DfL ρ1 w.heap.size im1 H1 w1 ds l → MdR ρ1 H1.length im1 u m → leaveD P A run fn.results.toList e l m H1 = some r →
    LeavesInM (FW none) n P fn a.tmps (OutR ρ im H w r) ds u w1
  | [], m, H1, ρ1, im1, w1, ds, u, k, he, hd, hm, h => by
    cases hd
    cases hm with
    | ret =>
      simp only [leaveD] at h
      obtain ⟨l, h1, rfl⟩ := map_some h
      obtain ⟨v', g1, g2⟩ := results_run k.rel he h1
      exact ⟨v', g1, .ok ρ1 im1 H1 w1 v' _ k g2⟩
    | pan v d hv =>
      simp only [leaveD] at h
      simp at h; subst h
      exact .pan ρ1 im1 H1 w1 v d k hv
    | rcv v d hv => simp [leaveD] at h
  | .mark :: l, m, H1, ρ1, im1, w1, ds, u, k, he, hd, hm, h => by
    cases hd with
    | mark b ds _ hb ho hu hq hr =>
      have h : leaveD P A run fn.results.toList e l m H1 = some r := by cases m <;> simpa only [leaveD] using h
      exact ⟨hm.run, .inl ⟨b, _, rfl, run_takeDeferred ho, leave_ok hA hrun l (k.shut hb ho hu _) he (hr.world hq) hm h⟩⟩
  | .call g args :: l, m, H1, ρ1, im1, w1, ds, u, k, he, hd, hm, h => by
    cases hd with
    | call _ vs us _ ds _ hargs hr =>
      have h : (lastD P A run g args m H1).bind (fun (m, H) => leaveD P A run fn.results.toList e l m H) = some r := by cases m <;> simpa only [leaveD] using h
      obtain ⟨⟨m2, H2⟩, h1, h2⟩ := bind_some h
      obtain ⟨hb, hcd⟩ := lastD_ok (n := n - 1) hA hrun h1 k.rel hargs hm
      refine ⟨hm.run, .inr ⟨fw_depth, .func g, ⟨us⟩, g, ⟨vs ++ us⟩, rfl, ?_, fun _ _ => trivial, hcd.mono fun en u' w' hp => ?_⟩⟩
      · simp only [invoke]
        have : (⟨vs⟩ : Array Value) ++ ⟨us⟩ = ⟨vs ++ us⟩ := by apply Array.ext'; simp
        rw [this, callFunc_run hb]
      · obtain ⟨v, ρ2, im2, rfl, k2, hm2⟩ := hp
        exact leave_ok hA hrun l (k.trans k2) (k2.env he) (hr.mv k2) hm2 h2

theorem runF_ok (hmo : P.follows .mixedOrders = true) (hA : PrimOk P A) : ∀ k, CallOk P (runF P A k)
  | 0 => fun f args H r h => by simp [runF] at h
  | k + 1 => fun f args H r h ρ im w vs hR hargs => by
    have ih := runF_ok hmo hA k
    have hrun : ∀ N c, CodeOk P N (runC P A (runF P A k) k N c) c := fun N c => runC_ok hmo hA ih k c
    simp only [runF] at h
    unfold CallR
    cases hf : P.funcs[f]? with
    | none =>
      simp only [hf] at h
      exact roundD_ok hrun h hR hargs
    | some fn =>
      simp only [hf] at h
      cases hb : fn.body with
      | none => simp [hb] at h
      | some c =>
        simp only [hb] at h
        split at h
        · cases h
        · rename_i hcond
          simp only [Bool.or_eq_true, decide_eq_true_eq, not_or, Nat.not_lt] at hcond
          have he := env_enter hargs hcond.2
          have hd : DfR ρ w.heap.size im H w none [] (ofArgs args).df := ⟨Nat.le_refl _, fun l hl => ⟨rfl, by simp [ofArgs] at hl; subst hl; exact .nil⟩⟩
          have hin : CallsIn (FW none) 0 P f ⟨vs⟩ w (OutR ρ im H w r) := by
            refine callsIn_of_wp_marks hf hb trivial ?_ rfl
            cases hrc : runC P A (runF P A k) k fn.ntmps c (ofArgs args) H with
            | none => simp [hrc] at h
            | some s =>
              refine wpIn_mono (hrun fn.ntmps c _ _ _ _ _ _ _ w.heap.size none 0 hR he hd hrc) fun x a' w' haf => ?_
              obtain ⟨ρ', im', hm, he', hd', v, hx, hp⟩ := haf.ex
              obtain ⟨ex, e', H'⟩ := s
              simp only [hrc] at h
              cases ex with
              | norm =>
                simp only at h
                obtain ⟨l, h1, h2⟩ := bind_some h
                simp only [exOf] at hx
                subst hx
                exact leave_ok hA hrun l hm he' (hd'.r l h1).2 .ret h2
              | ret =>
                simp only at h
                obtain ⟨l, h1, h2⟩ := bind_some h
                simp only [exOf] at hx
                subst hx
                exact leave_ok hA hrun l hm he' (hd'.r l h1).2 .ret h2
              | pan d =>
                simp only at h
                obtain ⟨l, h1, h2⟩ := bind_some h
                simp only [exOf] at hx
                subst hx
                exact leave_ok hA hrun l hm he' (hd'.r l h1).2 (.pan v d (hp d rfl)) h2
              | exit i => simp at h
          exact callsIn_wide.1 hin
end
end Vm
end
/- Reasoning about the interpreter: more rounds give the same; what code and calls come to. -/
section
set_option linter.unusedVariables false
set_option linter.unusedSimpArgs false
namespace Vm
open Go

def CallLe (c c' : CallF) : Prop := ∀ f args H r, c f args H = some r → c' f args H = some r
def noCall : CallF := fun _ _ _ => none
theorem noCall_le (c : CallF) : CallLe noCall c := fun _ _ _ _ h => by simp [noCall] at h
section
variable {P : Program} {A : Ann} {N : Nat} {c c' : CallF}
theorem callD_mono (h : CallLe c c') {f : FuncId} {args : List D} {H : Heap} {r : R} (hc : callD P A c f args H = some r) : callD P A c' f args H = some r := by
  unfold callD at hc ⊢
  by_cases hb : bodied P f = false
  · rw [if_pos hb] at hc; cases hc
  · rw [if_neg hb] at hc ⊢
    cases hp : A.prim f with
    | some p => simp only [hp] at hc ⊢; exact hc
    | none =>
      simp only [hp] at hc ⊢
      cases hm : A.mode f with
      | state => simp only [hm] at hc ⊢; exact h _ _ _ _ hc
      | pure =>
        simp only [hm] at hc ⊢
        obtain ⟨⟨as, H'⟩, h1, h2⟩ := bind_some hc
        obtain ⟨r', h3, h4⟩ := bind_some h2
        simp only [h1, Option.bind_some, h _ _ _ _ h3]
        exact h4
      | fresh =>
        simp only [hm] at hc ⊢
        obtain ⟨⟨as, H'⟩, h1, h2⟩ := bind_some hc
        obtain ⟨r', h3, h4⟩ := bind_some h2
        simp only [h1, Option.bind_some, h _ _ _ _ h3]
        exact h4
theorem stepOp_mono (h : CallLe c c') {o : Op} {e : Env} {H : Heap} {r : R} (hc : stepOp P A c o e H = some r) : stepOp P A c' o e H = some r := by
  cases o
  case call k =>
    simp only [stepOp] at hc ⊢
    obtain ⟨args, h1, h2⟩ := bind_some hc
    rw [h1]
    simp only [Option.bind_some]
    cases hk : k.callee with
    | builtin b => simpa [hk] using h2
    | invoke x y => simp [hk] at h2
    | value f =>
      simp only [hk] at h2 ⊢
      obtain ⟨d, h3, h4⟩ := bind_some h2
      rw [h3]
      simp only [Option.bind_some]
      cases d <;> simp only at h4 ⊢ <;> try (cases h4; done)
      · exact callD_mono h h4
      · exact h _ _ _ _ h4
  case makeFunc fn fs cs => cases fn <;> exact hc
  all_goals (simp only [stepOp] at hc ⊢; exact hc)
theorem stepX_mono (h : CallLe c c') {o : Op} {e : Env} {H : Heap} {r : R} (hc : stepX P A c o e H = some r) : stepX P A c' o e H = some r := by
  cases o
  case call k =>
    simp only [stepX] at hc ⊢
    cases hk : k.callee with
    | builtin b => simp only [hk] at hc ⊢; exact stepOp_mono h hc
    | invoke x y => simp only [hk] at hc ⊢; exact stepOp_mono h hc
    | value f =>
      cases f with
      | func f =>
        simp only [hk] at hc ⊢
        split at hc
        · rename_i hq
          rw [if_pos hq]
          obtain ⟨args, h1, h2⟩ := bind_some hc
          rw [h1]
          simp only [Option.bind_some]
          split at h2
          · rename_i hs; rw [if_pos hs]; exact stepOp_mono h h2
          · cases h2
        · rename_i hq; rw [if_neg hq]; exact stepOp_mono h hc
      | _ => simp only [hk] at hc ⊢; exact stepOp_mono h hc
  all_goals (simp only [stepX] at hc ⊢; exact stepOp_mono h hc)
theorem runOps_mono (h : CallLe c c') {ops : Array Oper} : ∀ {l : List Oper} {e : Env} {H : Heap} {s : St}, runOps P A c N ops l e H = some s → runOps P A c' N ops l e H = some s
  | [], e, H, s, hc => hc
  | o :: r, e, H, s, hc => by
    simp only [runOps] at hc ⊢
    by_cases hd : dstOk N o.dst = false
    · rw [if_pos hd] at hc; cases hc
    · rw [if_neg hd] at hc ⊢
      cases hw : wantD ops e o with
      | none => simp [hw] at hc
      | some b =>
        cases b with
        | false => simp only [hw] at hc ⊢; exact runOps_mono h hc
        | true =>
          simp only [hw] at hc ⊢
          cases hdc : deferC o.op with
          | some cc =>
            simp only [hdc] at hc ⊢
            cases hp : pushD P e cc with
            | none => simp [hp] at hc
            | some e' => simp only [hp] at hc ⊢; exact runOps_mono h hc
          | none =>
            simp only [hdc] at hc ⊢
            cases hs : stepOp P A c o.op e H with
            | none => simp [hs] at hc
            | some res =>
              rw [stepOp_mono h hs]
              rw [hs] at hc
              cases res with
              | ok d H1 => exact runOps_mono h hc
              | pan d H1 => exact hc
theorem runOpsX_mono (h : CallLe c c') {ops : Array Oper} : ∀ {l : List Oper} {e : Env} {H : Heap} {s : St}, runOpsX P A c N ops l e H = some s → runOpsX P A c' N ops l e H = some s
  | [], e, H, s, hc => hc
  | o :: r, e, H, s, hc => by
    simp only [runOpsX] at hc ⊢
    by_cases hd : dstOk N o.dst = false
    · rw [if_pos hd] at hc; cases hc
    · rw [if_neg hd] at hc ⊢
      cases hw : wantD ops e o with
      | none => simp [hw] at hc
      | some b =>
        cases b with
        | false => simp only [hw] at hc ⊢; exact runOpsX_mono h hc
        | true =>
          simp only [hw] at hc ⊢
          cases hs : stepX P A c o.op e H with
          | none => simp [hs] at hc
          | some res =>
            rw [stepX_mono h hs]
            rw [hs] at hc
            cases res with
            | ok d H1 => exact runOpsX_mono h hc
            | pan d H1 => cases hc
theorem iterC_mono {b b' : Env → Heap → Option St} (hb : ∀ e H s, b e H = some s → b' e H = some s) : ∀ {k k' : Nat} {e : Env} {H : Heap} {s : St}, k ≤ k' → iterC b k e H = some s → iterC b' k' e H = some s
  | 0, k', e, H, s, hk, hc => by simp [iterC] at hc
  | k + 1, 0, e, H, s, hk, hc => by omega
  | k + 1, k' + 1, e, H, s, hk, hc => by
    simp only [iterC] at hc ⊢
    cases hx : b e H with
    | none => simp [hx] at hc
    | some s1 =>
      rw [hb _ _ _ hx]
      rw [hx] at hc
      obtain ⟨ex, e1, H1⟩ := s1
      cases ex with
      | norm => exact iterC_mono hb (by omega) hc
      | _ => exact hc
theorem runC_mono (h : CallLe c c') {k k' : Nat} (hk : k ≤ k') : ∀ {cd : Code} {e : Env} {H : Heap} {s : St}, runC P A c k N cd e H = some s → runC P A c' k' N cd e H = some s
  | .skip, e, H, s, hc => hc
  | .label _, e, H, s, hc => hc
  | .region id ops draw, e, H, s, hc => by
    simp only [runC] at hc ⊢
    cases draw with
    | true =>
      simp only [if_true] at hc ⊢
      split at hc
      · rename_i hl; rw [if_pos hl]; exact runOpsX_mono h hc
      · cases hc
    | false => simp only [Bool.false_eq_true, if_false] at hc ⊢; exact runOps_mono h hc
  | .seq a b, e, H, s, hc => by
    simp only [runC] at hc ⊢
    cases hx : runC P A c k N a e H with
    | none => simp [hx] at hc
    | some s1 =>
      rw [runC_mono h hk hx]
      rw [hx] at hc
      obtain ⟨ex, e1, H1⟩ := s1
      cases ex with
      | norm => exact runC_mono h hk hc
      | _ => exact hc
  | .cond x a b, e, H, s, hc => by
    simp only [runC] at hc ⊢
    cases hx : evalO e x with
    | none => simp [hx] at hc
    | some d =>
      cases d <;> simp only [hx] at hc ⊢ <;> try (cases hc; done)
      rename_i bb
      cases bb
      · exact runC_mono h hk hc
      · exact runC_mono h hk hc
  | .block id b, e, H, s, hc => by
    simp only [runC] at hc ⊢
    cases hx : runC P A c k N b e H with
    | none => simp [hx] at hc
    | some s1 =>
      rw [runC_mono h hk hx]
      rw [hx] at hc
      exact hc
  | .loop b, e, H, s, hc => by
    simp only [runC] at hc ⊢
    exact iterC_mono (fun e H s hs => runC_mono h hk hs) hk hc
  | .rangeFunc g ps assign body, e, H, s, hc => by
    simp only [runC] at hc ⊢
    obtain ⟨l, h1, h2⟩ := bind_some hc
    obtain ⟨d, h3, h4⟩ := bind_some h2
    rw [h1, Option.bind_some, h3, Option.bind_some]
    cases d <;> simp only at h4 ⊢ <;> try (cases h4; done)
    rename_i f cs
    split at h4
    · cases h4
    · rename_i hb
      rw [if_neg hb]
      cases hcall : c f (.yld H.length :: cs) (H ++ [.loop ⟨.ready, none, e.f, N, ps, assign, body⟩]) with
      | none => simp [hcall] at h4
      | some r => rw [h _ _ _ _ hcall]; rw [hcall] at h4; exact h4
  | .exit _, e, H, s, hc => hc
  | .scope _, e, H, s, hc => by simp [runC] at hc
  | .goto _, e, H, s, hc => by simp [runC] at hc
  | .ret, e, H, s, hc => hc
  | .refuse _, e, H, s, hc => by simp [runC] at hc
theorem runS_mono {run run' : Code → Env → Heap → Option St} (hr : ∀ c e H s, run c e H = some s → run' c e H = some s) : ∀ {c : Code} {e : Env} {H : Heap} {m : Md} {x : St × Md}, runS P A N run c e H m = some x → runS P A N run' c e H m = some x := by
  have other : ∀ {c : Code} {e : Env} {H : Heap} {m : Md} {x : St × Md}, (run c e H).map (fun s => (s, m)) = some x → (run' c e H).map (fun s => (s, m)) = some x := by
    intro c e H m x h
    obtain ⟨s, h1, h2⟩ := map_some h
    rw [hr _ _ _ _ h1]; simpa using h2
  intro c
  induction c with
  | seq a b iha ihb =>
    intro e H m x h
    simp only [runS] at h ⊢
    obtain ⟨⟨⟨x1, e1, H1⟩, m1⟩, h1, h2⟩ := bind_some h
    rw [iha h1, Option.bind_some]
    cases x1 <;> simp only at h2 ⊢
    · exact ihb h2
    all_goals exact h2
  | cond o a b iha ihb =>
    intro e H m x h
    simp only [runS] at h ⊢
    cases ho : evalO e o with
    | none => simp [ho] at h
    | some d =>
      cases d <;> simp only [ho] at h ⊢ <;> try (cases h; done)
      rename_i bb
      cases bb
      · exact ihb h
      · exact iha h
  | region id ops draw =>
    intro e H m x h
    simp only [runS] at h ⊢
    split at h
    · rename_i hc; rw [if_pos hc]; exact h
    · rename_i hc; rw [if_neg hc]; exact other h
  | _ =>
    intro e H m x h
    simp only [runS] at h ⊢
    exact other h
theorem lastD_mono {run run' : Nat → Code → Env → Heap → Option St} (hr : ∀ N c e H s, run N c e H = some s → run' N c e H = some s) {f : FuncId} {args : List D} {m : Md} {H : Heap} {x : Md × Heap} (h : lastD P A run f args m H = some x) : lastD P A run' f args m H = some x := by
  unfold lastD at h ⊢
  cases hf : P.funcs[f]? with
  | none => simp [hf] at h
  | some fn =>
    simp only [hf] at h ⊢
    cases hb : fn.body with
    | none => simp [hb] at h
    | some c =>
      simp only [hb] at h ⊢
      split at h
      · cases h
      · rename_i hcond
        rw [if_neg hcond]
        obtain ⟨y, h1, h2⟩ := bind_some h
        rw [runS_mono (hr _) h1, Option.bind_some]
        exact h2
theorem leaveD_mono {run run' : Nat → Code → Env → Heap → Option St} (hr : ∀ N c e H s, run N c e H = some s → run' N c e H = some s) {rs : List ResultVar} {e : Env} : ∀ {l : List Dfr} {m : Md} {H : Heap} {r : R}, leaveD P A run rs e l m H = some r → leaveD P A run' rs e l m H = some r
  | [], m, H, r, h => by cases m <;> exact h
  | .mark :: l, m, H, r, h => by
    have h' : leaveD P A run rs e l m H = some r := by cases m <;> simpa only [leaveD] using h
    have := leaveD_mono hr h'
    cases m <;> simpa only [leaveD] using this
  | .call f args :: l, m, H, r, h => by
    have h' : (lastD P A run f args m H).bind (fun (m, H) => leaveD P A run rs e l m H) = some r := by cases m <;> simpa only [leaveD] using h
    obtain ⟨⟨m1, H1⟩, h1, h2⟩ := bind_some h'
    have : (lastD P A run' f args m H).bind (fun (m, H) => leaveD P A run' rs e l m H) = some r := by rw [lastD_mono hr h1, Option.bind_some]; exact leaveD_mono hr h2
    cases m <;> simpa only [leaveD] using this
theorem roundD_mono {run run' : Nat → Code → Env → Heap → Option St} (hr : ∀ N c e H s, run N c e H = some s → run' N c e H = some s) {r : Nat} {args : List D} {H : Heap} {x : R} (h : roundD run r args H = some x) : roundD run' r args H = some x := by
  unfold roundD at h ⊢
  obtain ⟨lp, h1, h2⟩ := bind_some h
  rw [h1, Option.bind_some]
  split at h2
  · rename_i hc
    rw [if_pos hc]
    obtain ⟨⟨x1, e1, H1⟩, h3, h4⟩ := bind_some h2
    rw [hr _ _ _ _ _ h3, Option.bind_some]
    cases x1 <;> simp only at h4 ⊢ <;> try (cases h4; done)
    obtain ⟨l1, h5, h6⟩ := bind_some h4
    rw [h5, Option.bind_some]
    split at h6
    · rename_i hq
      rw [if_pos hq]
      obtain ⟨s2, h7, h8⟩ := bind_some h6
      rw [hr _ _ _ _ _ h7, Option.bind_some]
      exact h8
    · cases h6
  · cases h2
theorem runF_succ : ∀ (k : Nat), CallLe (runF P A k) (runF P A (k + 1))
  | 0, f, args, H, r, h => by simp [runF] at h
  | k + 1, f, args, H, r, h => by
    rw [runF] at h ⊢
    cases hf : P.funcs[f]? with
    | none =>
      simp only [hf] at h ⊢
      exact roundD_mono (fun N c e H s hs => runC_mono (runF_succ k) (Nat.le_succ k) hs) h
    | some fn =>
      simp only [hf] at h ⊢
      cases hb : fn.body with
      | none => simp [hb] at h
      | some cd =>
        simp only [hb] at h ⊢
        split at h
        · cases h
        · rename_i hcond
          rw [if_neg hcond]
          cases hr : runC P A (runF P A k) k fn.ntmps cd (ofArgs args) H with
          | none => simp [hr] at h
          | some s =>
            rw [runC_mono (runF_succ k) (Nat.le_succ k) hr]
            rw [hr] at h
            obtain ⟨x, e1, H1⟩ := s
            cases x with
            | exit i => simp at h
            | norm =>
              simp only at h ⊢
              obtain ⟨l, h1, h2⟩ := bind_some h
              rw [h1, Option.bind_some]
              exact leaveD_mono (fun N c e H s hs => runC_mono (runF_succ k) (Nat.le_succ k) hs) h2
            | ret =>
              simp only at h ⊢
              obtain ⟨l, h1, h2⟩ := bind_some h
              rw [h1, Option.bind_some]
              exact leaveD_mono (fun N c e H s hs => runC_mono (runF_succ k) (Nat.le_succ k) hs) h2
            | pan d =>
              simp only at h ⊢
              obtain ⟨l, h1, h2⟩ := bind_some h
              rw [h1, Option.bind_some]
              exact leaveD_mono (fun N c e H s hs => runC_mono (runF_succ k) (Nat.le_succ k) hs) h2
theorem runF_le {k k' : Nat} (h : k ≤ k') : CallLe (runF P A k) (runF P A k') := by
  induction h with
  | refl => exact fun _ _ _ _ h => h
  | step _ ih => exact fun f args H r h => runF_succ _ f args H r (ih f args H r h)
end

/-! ### what a call comes to -/
section
variable (P : Program) (A : Ann)
/-- a call, as code makes it -/
def EvC (f : FuncId) (args : List D) (H : Heap) (K Kp : D → Heap → Prop) : Prop :=
  ∃ k r, callD P A (runF P A k) f args H = some r ∧ match r with
    | .ok d H' => K d H'
    | .pan d H' => Kp d H'
/-- a function's own run -/
def EvF (f : FuncId) (args : List D) (H : Heap) (K Kp : D → Heap → Prop) : Prop :=
  ∃ k r, runF P A k f args H = some r ∧ match r with
    | .ok d H' => K d H'
    | .pan d H' => Kp d H'
/-- one operation -/
def vOp (o : Op) (e : Env) (H : Heap) (K Kp : D → Heap → Prop) : Prop :=
  match o with
  | .call c => match c.callee with
    | .value f => match evalOs e c.args.toList, evalO e f with
      | some args, some (.fn g cs) => EvC P A g (args ++ cs) H K Kp
      | some args, some (.yld r) => EvF P A (P.funcs.size + r) args H K Kp
      | _, _ => False
    | _ => match stepOp P A noCall (.call c) e H with
      | some (.ok d H') => K d H'
      | some (.pan d H') => Kp d H'
      | none => False
  | o => match stepOp P A noCall o e H with
    | some (.ok d H') => K d H'
    | some (.pan d H') => Kp d H'
    | none => False
def vOps (N : Nat) (ops : Array Oper) : List Oper → Env → Heap → (Env → Heap → Prop) → (D → Env → Heap → Prop) → Prop
  | [], e, H, K, _ => K e H
  | o :: rest, e, H, K, Kp => dstOk N o.dst = true ∧ match wantD ops e o with
    | some true => match deferC o.op with
      | some c => match pushD P e c with
        | some e' => vOps N ops rest (putO e' o.dst ud) H K Kp
        | none => False
      | none => vOp P A o.op e H (fun d H' => vOps N ops rest (putO e o.dst d) H' K Kp) (fun d H' => Kp d e H')
    | some false => vOps N ops rest (putO e o.dst ud) H K Kp
    | none => False
/-- in a region whose order is open: a pure call has plain arguments -/
def vOpX (o : Op) (e : Env) (H : Heap) (K : D → Heap → Prop) : Prop :=
  match o with
  | .call c => match c.callee with
    | .value (.func f) => match evalOs e c.args.toList with
      | some args => ((A.prim f).isNone && A.mode f == .pure) = true → (stripL args).isSome = true ∧ True
      | none => False
    | _ => True
  | _ => True
def vOpsX (N : Nat) (ops : Array Oper) : List Oper → Env → Heap → (Env → Heap → Prop) → Prop
  | [], e, H, K => K e H
  | o :: rest, e, H, K => dstOk N o.dst = true ∧ match wantD ops e o with
    | some true => vOpX A o.op e H (fun _ _ => True) ∧ vOp P A o.op e H (fun d H' => vOpsX N ops rest (putO e o.dst d) H' K) (fun _ _ => False)
    | some false => vOpsX N ops rest (putO e o.dst ud) H K
    | none => False
/-- code -/
def WpC (N : Nat) (c : Code) (e : Env) (H : Heap) (Q : Ex → Env → Heap → Prop) : Prop :=
  ∃ k s, runC P A (runF P A k) k N c e H = some s ∧ Q s.ex s.e s.H
end

section
variable {P : Program} {A : Ann} {N : Nat}
theorem EvC.mono {f : FuncId} {args : List D} {H : Heap} {K Kp K' Kp' : D → Heap → Prop} (h : EvC P A f args H K Kp) (h1 : ∀ d H', K d H' → K' d H') (h2 : ∀ d H', Kp d H' → Kp' d H') : EvC P A f args H K' Kp' := by
  obtain ⟨k, r, hr, hq⟩ := h
  refine ⟨k, r, hr, ?_⟩
  cases r
  · exact h1 _ _ hq
  · exact h2 _ _ hq
theorem WpC.mono {c : Code} {e : Env} {H : Heap} {Q Q' : Ex → Env → Heap → Prop} (h : WpC P A N c e H Q) (hq : ∀ x e H, Q x e H → Q' x e H) : WpC P A N c e H Q' := by
  obtain ⟨k, s, hr, h1⟩ := h
  exact ⟨k, s, hr, hq _ _ _ h1⟩
theorem vOp_step {o : Op} {e : Env} {H : Heap} {K Kp : D → Heap → Prop} (h : vOp P A o e H K Kp) : ∃ k r, stepOp P A (runF P A k) o e H = some r ∧ match r with
    | .ok d H' => K d H'
    | .pan d H' => Kp d H' := by
  have gen : ∀ {x : Option R}, x = stepOp P A noCall o e H → (match x with | some (.ok d H') => K d H' | some (.pan d H') => Kp d H' | none => False) → ∃ k r, stepOp P A (runF P A k) o e H = some r ∧ match r with
      | .ok d H' => K d H'
      | .pan d H' => Kp d H' := by
    intro x hx hm
    cases x with
    | none => exact hm.elim
    | some r =>
      refine ⟨0, r, stepOp_mono (noCall_le _) hx.symm, ?_⟩
      cases r <;> exact hm
  unfold vOp at h
  split at h
  · rename_i c
    split at h
    · rename_i f hf
      split at h
      · rename_i args g cs ha hg
        obtain ⟨k, r, hr, hq⟩ := h
        refine ⟨k, r, ?_, hq⟩
        simp only [stepOp, ha, Option.bind_some, hf, hg]
        exact hr
      · rename_i args r0 ha hg
        obtain ⟨k, r, hr, hq⟩ := h
        refine ⟨k, r, ?_, hq⟩
        simp only [stepOp, ha, Option.bind_some, hf, hg]
        exact hr
      · exact h.elim
    · exact gen rfl h
  · exact gen rfl h
theorem vOps_run {ops : Array Oper} : ∀ {l : List Oper} {e : Env} {H : Heap} {K : Env → Heap → Prop} {Kp : D → Env → Heap → Prop}, vOps P A N ops l e H K Kp →
    ∃ k s, runOps P A (runF P A k) N ops l e H = some s ∧ ((s.ex = .norm ∧ K s.e s.H) ∨ ∃ d, s.ex = .pan d ∧ Kp d s.e s.H)
  | [], e, H, K, Kp, h => ⟨0, ⟨.norm, e, H⟩, rfl, .inl ⟨rfl, h⟩⟩
  | o :: r, e, H, K, Kp, h => by
    obtain ⟨hd, h⟩ := h
    have hd' : ¬ dstOk N o.dst = false := by simp [hd]
    cases hw : wantD ops e o with
    | none => simp [hw] at h
    | some b =>
      cases b with
      | false =>
        simp only [hw] at h
        obtain ⟨k, s, h1, h2⟩ := vOps_run h
        exact ⟨k, s, by simp only [runOps, if_neg hd', hw]; exact h1, h2⟩
      | true =>
        simp only [hw] at h
        cases hdc : deferC o.op with
        | some c =>
          simp only [hdc] at h
          cases hp : pushD P e c with
          | none => simp [hp] at h
          | some e' =>
            simp only [hp] at h
            obtain ⟨k, s, h1, h2⟩ := vOps_run h
            exact ⟨k, s, by simp only [runOps, if_neg hd', hw, hdc, hp]; exact h1, h2⟩
        | none =>
          simp only [hdc] at h
          obtain ⟨k, res, h1, h2⟩ := vOp_step h
          cases res with
          | ok d H' =>
            obtain ⟨k2, s, h3, h4⟩ := vOps_run h2
            refine ⟨max k k2, s, ?_, h4⟩
            simp only [runOps, if_neg hd', hw, hdc, stepOp_mono (runF_le (Nat.le_max_left k k2)) h1]
            exact runOps_mono (runF_le (Nat.le_max_right k k2)) h3
          | pan d H' =>
            refine ⟨k, ⟨.pan d, e, H'⟩, ?_, .inr ⟨d, rfl, h2⟩⟩
            simp only [runOps, if_neg hd', hw, hdc, h1]
theorem stepX_of {o : Op} {e : Env} {H : Heap} {k : Nat} {r : R} (hx : vOpX A o e H (fun _ _ => True)) (h : stepOp P A (runF P A k) o e H = some r) : stepX P A (runF P A k) o e H = some r := by
  cases o
  case call c =>
    simp only [stepX]
    simp only [vOpX] at hx
    cases hk : c.callee with
    | builtin b => simp only; exact h
    | invoke x y => simp only; exact h
    | value f =>
      cases f with
      | func f =>
        simp only [hk] at hx ⊢
        split
        · rename_i hq
          cases ha : evalOs e c.args.toList with
          | none => simp [ha] at hx
          | some args =>
            simp only [ha] at hx
            simp only [Option.bind_some]
            rw [if_pos (hx hq).1]
            exact h
        · exact h
      | _ => simp only; exact h
  all_goals (simp only [stepX]; exact h)
theorem vOpsX_run {ops : Array Oper} : ∀ {l : List Oper} {e : Env} {H : Heap} {K : Env → Heap → Prop}, vOpsX P A N ops l e H K →
    ∃ k s, runOpsX P A (runF P A k) N ops l e H = some s ∧ s.ex = .norm ∧ K s.e s.H
  | [], e, H, K, h => ⟨0, ⟨.norm, e, H⟩, rfl, rfl, h⟩
  | o :: r, e, H, K, h => by
    obtain ⟨hd, h⟩ := h
    have hd' : ¬ dstOk N o.dst = false := by simp [hd]
    cases hw : wantD ops e o with
    | none => simp [hw] at h
    | some b =>
      cases b with
      | false =>
        simp only [hw] at h
        obtain ⟨k, s, h1, h2⟩ := vOpsX_run h
        exact ⟨k, s, by simp only [runOpsX, if_neg hd', hw]; exact h1, h2⟩
      | true =>
        simp only [hw] at h
        obtain ⟨k, res, h1, h2⟩ := vOp_step h.2
        cases res with
        | ok d H' =>
          obtain ⟨k2, s, h3, h4⟩ := vOpsX_run h2
          refine ⟨max k k2, s, ?_, h4⟩
          simp only [runOpsX, if_neg hd', hw, stepX_mono (runF_le (Nat.le_max_left k k2)) (stepX_of h.1 h1)]
          exact runOpsX_mono (runF_le (Nat.le_max_right k k2)) h3
        | pan d H' => exact h2.elim
end
end Vm
end
/- Rules for what code and calls come to. -/
section
set_option linter.unusedVariables false
set_option linter.unusedSimpArgs false
namespace Vm
open Go

def SeqQ (K : Env → Heap → Prop) (Q : Ex → Env → Heap → Prop) : Ex → Env → Heap → Prop
  | .norm, e, H => K e H
  | x, e, H => Q x e H
def BlkQ (id : Nat) (K : Env → Heap → Prop) (Q : Ex → Env → Heap → Prop) : Ex → Env → Heap → Prop
  | .norm, e, H => K e H
  | .exit i, e, H => if i = id then K e H else Q (.exit i) e H
  | x, e, H => Q x e H
def RetQ (P : Program) (rs : List ResultVar) (K Kp : D → Heap → Prop) : Ex → Env → Heap → Prop
  | .norm, e, H | .ret, e, H => match resD P e H rs with
    | some l => K (oneD l) H
    | none => False
  | .pan d, e, H => Kp d H
  | .exit _, _, _ => False
theorem SeqQ_norm {K Q e H} : SeqQ K Q .norm e H = K e H := rfl
theorem SeqQ_exit {K Q e H i} : SeqQ K Q (.exit i) e H = Q (.exit i) e H := rfl
theorem SeqQ_ret {K Q e H} : SeqQ K Q .ret e H = Q .ret e H := rfl
theorem SeqQ_pan {K Q e H d} : SeqQ K Q (.pan d) e H = Q (.pan d) e H := rfl
theorem BlkQ_norm {id K Q e H} : BlkQ id K Q .norm e H = K e H := rfl
theorem BlkQ_exit {id K Q e H i} : BlkQ id K Q (.exit i) e H = if i = id then K e H else Q (.exit i) e H := rfl
theorem BlkQ_ret {id K Q e H} : BlkQ id K Q .ret e H = Q .ret e H := rfl
theorem BlkQ_pan {id K Q e H d} : BlkQ id K Q (.pan d) e H = Q (.pan d) e H := rfl
theorem RetQ_ret {P rs K Kp e H} : RetQ P rs K Kp .ret e H = (match resD P e H rs with | some l => K (oneD l) H | none => False) := rfl
theorem RetQ_norm {P rs K Kp e H} : RetQ P rs K Kp .norm e H = (match resD P e H rs with | some l => K (oneD l) H | none => False) := rfl
theorem RetQ_pan {P rs K Kp e H d} : RetQ P rs K Kp (.pan d) e H = Kp d H := rfl

section
variable {P : Program} {A : Ann} {N : Nat} {e : Env} {H : Heap} {Q : Ex → Env → Heap → Prop}
theorem wpc_skip (h : Q .norm e H) : WpC P A N .skip e H Q := ⟨0, ⟨.norm, e, H⟩, rfl, h⟩
theorem wpc_exit {id : Nat} (h : Q (.exit id) e H) : WpC P A N (.exit id) e H Q := ⟨0, ⟨.exit id, e, H⟩, rfl, h⟩
theorem wpc_ret (h : Q .ret e H) : WpC P A N .ret e H Q := ⟨0, ⟨.ret, e, H⟩, rfl, h⟩
theorem wpc_region {id : Nat} {ops : Array Oper} (h : vOps P A N ops ops.toList e H (fun e H => Q .norm e H) (fun d e H => Q (.pan d) e H)) : WpC P A N (.region id ops false) e H Q := by
  obtain ⟨k, s, h1, h2⟩ := vOps_run h
  refine ⟨k, s, by simp only [runC, Bool.false_eq_true, if_false]; exact h1, ?_⟩
  rcases h2 with ⟨hx, h3⟩ | ⟨d, hx, h3⟩
  · rw [hx]; exact h3
  · rw [hx]; exact h3
theorem wpc_regionX {id : Nat} {ops : Array Oper} (hl : lexD A ops = true) (h : vOpsX P A N ops ops.toList e H (fun e H => Q .norm e H)) : WpC P A N (.region id ops true) e H Q := by
  obtain ⟨k, s, h1, h2, h3⟩ := vOpsX_run h
  exact ⟨k, s, by simp only [runC, if_true, hl]; exact h1, by rw [h2]; exact h3⟩
theorem wpc_seq {a b : Code} (h : WpC P A N a e H (SeqQ (fun e H => WpC P A N b e H Q) Q)) : WpC P A N (.seq a b) e H Q := by
  obtain ⟨k, s, h1, h2⟩ := h
  obtain ⟨x, e1, H1⟩ := s
  cases x with
  | norm =>
    obtain ⟨k2, s2, h3, h4⟩ := (h2 : WpC P A N b e1 H1 Q)
    refine ⟨max k k2, s2, ?_, h4⟩
    have g1 := runC_mono (runF_le (Nat.le_max_left k k2)) (Nat.le_max_left k k2) h1
    have g2 := runC_mono (runF_le (Nat.le_max_right k k2)) (Nat.le_max_right k k2) h3
    simp only [runC, g1, g2]
  | exit i => exact ⟨k, _, by simp only [runC, h1], h2⟩
  | ret => exact ⟨k, _, by simp only [runC, h1], h2⟩
  | pan d => exact ⟨k, _, by simp only [runC, h1], h2⟩
theorem wpc_cond {c : Operand} {x y : Code} {b : Bool} (hc : evalO e c = some (.bool b)) (ht : b = true → WpC P A N x e H Q) (hf : b = false → WpC P A N y e H Q) : WpC P A N (.cond c x y) e H Q := by
  cases b with
  | true => obtain ⟨k, s, h1, h2⟩ := ht rfl; exact ⟨k, s, by simp only [runC, hc, h1], h2⟩
  | false => obtain ⟨k, s, h1, h2⟩ := hf rfl; exact ⟨k, s, by simp only [runC, hc, h1], h2⟩
theorem wpc_block {id : Nat} {b : Code} (h : WpC P A N b e H (BlkQ id (fun e H => Q .norm e H) Q)) : WpC P A N (.block id b) e H Q := by
  obtain ⟨k, s, h1, h2⟩ := h
  obtain ⟨x, e1, H1⟩ := s
  cases x with
  | norm => exact ⟨k, ⟨.norm, e1, H1⟩, by simp only [runC, h1], h2⟩
  | exit i =>
    simp only [BlkQ] at h2
    by_cases hi : i = id
    · rw [if_pos hi] at h2; exact ⟨k, ⟨.norm, e1, H1⟩, by simp only [runC, h1, if_pos hi], h2⟩
    · rw [if_neg hi] at h2; exact ⟨k, ⟨.exit i, e1, H1⟩, by simp only [runC, h1, if_neg hi], h2⟩
  | ret => exact ⟨k, ⟨.ret, e1, H1⟩, by simp only [runC, h1], h2⟩
  | pan d => exact ⟨k, ⟨.pan d, e1, H1⟩, by simp only [runC, h1], h2⟩
theorem wpc_loop {b : Code} (I : Env → Heap → Prop) (μ : Env → Heap → Nat) (h0 : I e H) (hstep : ∀ e H, I e H → WpC P A N b e H (SeqQ (fun e' H' => I e' H' ∧ μ e' H' < μ e H) Q)) : WpC P A N (.loop b) e H Q := by
  have key : ∀ m e H, μ e H = m → I e H → ∃ k s, iterC (runC P A (runF P A k) k N b) k e H = some s ∧ Q s.ex s.e s.H := by
    intro m
    induction m using Nat.strongRecOn with
    | _ m ih =>
      intro e H hm hI
      obtain ⟨k, s, h1, h2⟩ := hstep e H hI
      obtain ⟨x, e1, H1⟩ := s
      cases x with
      | norm =>
        obtain ⟨hI1, hlt⟩ := (h2 : I e1 H1 ∧ μ e1 H1 < μ e H)
        have hlt' : μ e1 H1 < m := by rw [← hm]; exact hlt
        obtain ⟨k2, s2, h3, h4⟩ := ih (μ e1 H1) hlt' e1 H1 rfl hI1
        refine ⟨max k k2 + 1, s2, ?_, h4⟩
        have l1 : k ≤ max k k2 + 1 := by omega
        have l2 : k2 ≤ max k k2 + 1 := by omega
        have g1 := runC_mono (runF_le l1) l1 h1
        simp only [iterC, g1]
        exact iterC_mono (fun e H s hs => runC_mono (runF_le l2) l2 hs) (Nat.le_max_right k k2) h3
      | exit i => exact ⟨k + 1, _, by simp only [iterC, runC_mono (runF_le (Nat.le_succ k)) (Nat.le_succ k) h1], h2⟩
      | ret => exact ⟨k + 1, _, by simp only [iterC, runC_mono (runF_le (Nat.le_succ k)) (Nat.le_succ k) h1], h2⟩
      | pan d => exact ⟨k + 1, _, by simp only [iterC, runC_mono (runF_le (Nat.le_succ k)) (Nat.le_succ k) h1], h2⟩
  obtain ⟨k, s, h1, h2⟩ := key _ e H rfl h0
  exact ⟨k, s, by simp only [runC]; exact h1, h2⟩
theorem wpc_assoc {a b c : Code} (h : WpC P A N (.seq a (.seq b c)) e H Q) : WpC P A N (.seq (.seq a b) c) e H Q := by
  obtain ⟨k, s, h1, h2⟩ := h
  refine ⟨k, s, ?_, h2⟩
  simp only [runC] at h1 ⊢
  cases ha : runC P A (runF P A k) k N a e H with
  | none => simp [ha] at h1
  | some s1 =>
    obtain ⟨x, e1, H1⟩ := s1
    cases x <;> simp only [ha] at h1 ⊢
    · exact h1
    · exact h1
    · exact h1
    · exact h1

/-! ### code that lets no call wait -/
def calmC : Code → Bool
  | .region _ ops _ => ops.toList.all fun o => (deferC o.op).isNone
  | .seq a b => calmC a && calmC b
  | .cond _ a b => calmC a && calmC b
  | .block _ b => calmC b
  | .loop b => calmC b
  | .rangeFunc _ _ _ _ => false
  | _ => true
theorem putO_df' {e : Env} {i : Option Nat} {d : D} : (putO e i d).df = e.df := by cases i <;> rfl
theorem runOps_df {call : CallF} {ops : Array Oper} : ∀ {l : List Oper} {e : Env} {H : Heap} {s : St}, (l.all fun o => (deferC o.op).isNone) = true → runOps P A call N ops l e H = some s → s.e.df = e.df
  | [], e, H, s, _, h => by simp [runOps] at h; subst h; rfl
  | o :: r, e, H, s, hq, h => by
    simp only [List.all_cons, Bool.and_eq_true, Option.isNone_iff_eq_none] at hq
    simp only [runOps] at h
    split at h
    · cases h
    · cases hw : wantD ops e o with
      | none => simp [hw] at h
      | some b =>
        cases b with
        | false => simp only [hw] at h; have := runOps_df hq.2 h; rwa [putO_df'] at this
        | true =>
          simp only [hw, hq.1] at h
          cases hs : stepOp P A call o.op e H with
          | none => simp [hs] at h
          | some res =>
            cases res with
            | ok d H1 => simp only [hs] at h; have := runOps_df hq.2 h; rwa [putO_df'] at this
            | pan d H1 => simp [hs] at h; subst h; rfl
theorem runOpsX_df {call : CallF} {ops : Array Oper} : ∀ {l : List Oper} {e : Env} {H : Heap} {s : St}, runOpsX P A call N ops l e H = some s → s.e.df = e.df
  | [], e, H, s, h => by simp [runOpsX] at h; subst h; rfl
  | o :: r, e, H, s, h => by
    simp only [runOpsX] at h
    split at h
    · cases h
    · cases hw : wantD ops e o with
      | none => simp [hw] at h
      | some b =>
        cases b with
        | false => simp only [hw] at h; have := runOpsX_df h; rwa [putO_df'] at this
        | true =>
          simp only [hw] at h
          cases hs : stepX P A call o.op e H with
          | none => simp [hs] at h
          | some res =>
            cases res with
            | ok d H1 => simp only [hs] at h; have := runOpsX_df h; rwa [putO_df'] at this
            | pan d H1 => simp [hs] at h
theorem iterC_df {run : Env → Heap → Option St} (hr : ∀ e H s, run e H = some s → s.e.df = e.df) : ∀ {k : Nat} {e : Env} {H : Heap} {s : St}, iterC run k e H = some s → s.e.df = e.df
  | 0, e, H, s, h => by simp [iterC] at h
  | k + 1, e, H, s, h => by
    simp only [iterC] at h
    cases hx : run e H with
    | none => simp [hx] at h
    | some s1 =>
      obtain ⟨x, e1, H1⟩ := s1
      have := hr _ _ _ hx
      cases x with
      | norm => simp only [hx] at h; exact (iterC_df hr h).trans this
      | _ => simp [hx] at h; subst h; exact this
theorem runC_df {call : CallF} {k : Nat} : ∀ {c : Code} {e : Env} {H : Heap} {s : St}, calmC c = true → runC P A call k N c e H = some s → s.e.df = e.df := by
  intro c
  induction c with
  | region id ops draw =>
    intro e H s hq h
    simp only [runC] at h
    cases draw with
    | true =>
      simp only [if_true] at h
      split at h
      · exact runOpsX_df h
      · cases h
    | false =>
      simp only [Bool.false_eq_true, if_false] at h
      exact runOps_df (by simpa [calmC] using hq) h
  | seq a b iha ihb =>
    intro e H s hq h
    simp only [calmC, Bool.and_eq_true] at hq
    simp only [runC] at h
    cases hx : runC P A call k N a e H with
    | none => simp [hx] at h
    | some s1 =>
      obtain ⟨x, e1, H1⟩ := s1
      have h1 := iha hq.1 hx
      cases x with
      | norm => simp only [hx] at h; exact (ihb hq.2 h).trans h1
      | _ => simp [hx] at h; subst h; exact h1
  | cond o a b iha ihb =>
    intro e H s hq h
    simp only [calmC, Bool.and_eq_true] at hq
    simp only [runC] at h
    cases ho : evalO e o with
    | none => simp [ho] at h
    | some d =>
      cases d <;> simp only [ho] at h <;> try (cases h; done)
      rename_i bb
      cases bb
      · exact ihb hq.2 h
      · exact iha hq.1 h
  | block id b ih =>
    intro e H s hq h
    simp only [runC] at h
    cases hx : runC P A call k N b e H with
    | none => simp [hx] at h
    | some s1 =>
      obtain ⟨x, e1, H1⟩ := s1
      have h1 := ih hq hx
      cases x with
      | exit i =>
        simp only [hx] at h
        split at h <;> simp at h <;> subst h <;> exact h1
      | _ => simp [hx] at h; subst h; exact h1
  | loop b ih =>
    intro e H s hq h
    simp only [runC] at h
    exact iterC_df (fun e H s hs => ih hq hs) h
  | rangeFunc => intro e H s hq h; simp [calmC] at hq
  | skip => intro e H s hq h; simp [runC] at h; subst h; rfl
  | label => intro e H s hq h; simp [runC] at h; subst h; rfl
  | exit => intro e H s hq h; simp [runC] at h; subst h; rfl
  | ret => intro e H s hq h; simp [runC] at h; subst h; rfl
  | _ => intro e H s hq h; simp [runC] at h

/-! ### calls -/
/-- how a function is left, its waiting calls and all -/
def LeaveQ (P : Program) (A : Ann) (rs : List ResultVar) (K Kp : D → Heap → Prop) : Ex → Env → Heap → Prop
  | .norm, e, H | .ret, e, H => ∃ l k r, e.df = some l ∧ leaveD P A (fun N => runC P A (runF P A k) k N) rs e l .ret H = some r ∧ (match r with | .ok d H' => K d H' | .pan d H' => Kp d H')
  | .pan d, e, H => ∃ l k r, e.df = some l ∧ leaveD P A (fun N => runC P A (runF P A k) k N) rs e l (.pan d) H = some r ∧ (match r with | .ok d H' => K d H' | .pan d H' => Kp d H')
  | .exit _, _, _ => False
theorem runRun_mono {k k' : Nat} (h : k ≤ k') : ∀ N c e H s, runC P A (runF P A k) k N c e H = some s → runC P A (runF P A k') k' N c e H = some s :=
  fun N c e H s hs => runC_mono (runF_le h) h hs
theorem evF_leave {f : FuncId} {fn : Func} {c : Code} {n : Nat} {rs : List ResultVar} {args : List D} {K Kp : D → Heap → Prop} (hf : P.funcs[f]? = some fn) (hb : fn.body = some c) (hn : (fn.name == "runtime.NumGoroutine") = false) (hN : fn.ntmps = n) (hr : fn.results.toList = rs) (ha : Nat.ble args.length n = true)
    (h : WpC P A n c (ofArgs args) H (LeaveQ P A rs K Kp)) : EvF P A f args H K Kp := by
  subst hN hr
  obtain ⟨k, s, h1, h2⟩ := h
  obtain ⟨x, e1, H1⟩ := s
  have ha' := Nat.le_of_ble_eq_true ha
  have hcond : ¬ ((fn.name == "runtime.NumGoroutine" || decide (args.length > fn.ntmps)) = true) := by simp [hn]; omega
  have fin : ∀ {m : Md} {l : List Dfr} {k2 : Nat} {r : R}, e1.df = some l → leaveD P A (fun N => runC P A (runF P A k2) k2 N) fn.results.toList e1 l m H1 = some r → (x = .norm ∧ m = .ret ∨ x = .ret ∧ m = .ret ∨ ∃ d, x = .pan d ∧ m = .pan d) → runF P A (max k k2 + 1) f args H = some r := by
    intro m l k2 r g1 g2 g3
    have r1 := runRun_mono (Nat.le_max_left k k2) _ _ _ _ _ h1
    have r2 := leaveD_mono (fun N c e H s hs => runRun_mono (P := P) (A := A) (Nat.le_max_right k k2) N c e H s hs) g2
    simp only [runF, hf, hb, if_neg hcond, r1]
    rcases g3 with ⟨rfl, rfl⟩ | ⟨rfl, rfl⟩ | ⟨d, rfl, rfl⟩ <;> simp only [g1, Option.bind_some] <;> exact r2
  cases x with
  | norm =>
    obtain ⟨l, k2, r, g1, g2, g3⟩ := h2
    exact ⟨_, r, fin g1 g2 (.inl ⟨rfl, rfl⟩), g3⟩
  | ret =>
    obtain ⟨l, k2, r, g1, g2, g3⟩ := h2
    exact ⟨_, r, fin g1 g2 (.inr (.inl ⟨rfl, rfl⟩)), g3⟩
  | pan d =>
    obtain ⟨l, k2, r, g1, g2, g3⟩ := h2
    exact ⟨_, r, fin g1 g2 (.inr (.inr ⟨d, rfl, rfl⟩)), g3⟩
  | exit i => exact h2.elim
theorem evF_in {f : FuncId} {fn : Func} {c : Code} {n : Nat} {rs : List ResultVar} {args : List D} {K Kp : D → Heap → Prop} (hf : P.funcs[f]? = some fn) (hb : fn.body = some c) (hn : (fn.name == "runtime.NumGoroutine") = false) (hN : fn.ntmps = n) (hr : fn.results.toList = rs) (hc : calmC c = true) (ha : Nat.ble args.length n = true)
    (h : WpC P A n c (ofArgs args) H (RetQ P rs K Kp)) : EvF P A f args H K Kp := by
  refine evF_leave hf hb hn hN hr ha ?_
  obtain ⟨k, s, h1, h2⟩ := h
  refine ⟨k, s, h1, ?_⟩
  have hdf : s.e.df = some [] := runC_df hc h1
  obtain ⟨x, e1, H1⟩ := s
  simp only at hdf h2 ⊢
  cases x with
  | norm =>
    simp only [RetQ] at h2
    cases hr : resD P e1 H1 rs with
    | none => simp [hr] at h2
    | some l => simp only [hr] at h2; exact ⟨[], 0, .ok (oneD l) H1, hdf, by simp [leaveD, hr], h2⟩
  | ret =>
    simp only [RetQ] at h2
    cases hr : resD P e1 H1 rs with
    | none => simp [hr] at h2
    | some l => simp only [hr] at h2; exact ⟨[], 0, .ok (oneD l) H1, hdf, by simp [leaveD, hr], h2⟩
  | pan d => exact ⟨[], 0, .pan d H1, hdf, by simp [leaveD], h2⟩
  | exit i => exact h2
theorem EvF.mono {f : FuncId} {args : List D} {K Kp K' Kp' : D → Heap → Prop} (h : EvF P A f args H K Kp) (h1 : ∀ d H', K d H' → K' d H') (h2 : ∀ d H', Kp d H' → Kp' d H') : EvF P A f args H K' Kp' := by
  obtain ⟨k, r, hr, hq⟩ := h
  refine ⟨k, r, hr, ?_⟩
  cases r
  · exact h1 _ _ hq
  · exact h2 _ _ hq
/-- a function whose answer hangs on plain arguments alone -/
def PureF (P : Program) (A : Ann) (f : FuncId) (args : List D) (d : D) : Prop := EvF P A f args [] (fun d' Hc => outPure Hc d' = some d) (fun _ _ => False)
theorem evC_state {f : FuncId} {args : List D} {K Kp : D → Heap → Prop} (hb : bodied P f = true) (hp : A.prim f = none) (hm : A.mode f = .state) (h : EvF P A f args H K Kp) : EvC P A f args H K Kp := by
  obtain ⟨k, r, hr, hq⟩ := h
  exact ⟨k, r, by simp only [callD, hb, Bool.true_eq_false, if_false, hp, hm]; exact hr, hq⟩
theorem evC_pure {f : FuncId} {args as : List D} {d : D} {H' : Heap} {K Kp : D → Heap → Prop} (hb : bodied P f = true) (hp : A.prim f = none) (hm : A.mode f = .pure) (ha : pures H args = some (as, H')) (h : PureF P A f as d)
    (hk : K d (if flat d then H else H')) : EvC P A f args H K Kp := by
  obtain ⟨k, r, hr, hq⟩ := h
  cases r with
  | pan _ _ => exact hq.elim
  | ok d' Hc =>
    simp only at hq
    exact ⟨k, .ok d (if flat d then H else H'), by simp only [callD, hb, Bool.true_eq_false, if_false, hp, hm, ha, Option.bind_some, hr, hq, Option.map_some]; rw [if_neg (by decide)], hk⟩
/-- the plain case: the arguments as they are -/
theorem evC_plain {f : FuncId} {args : List D} {d : D} {K Kp : D → Heap → Prop} (hb : bodied P f = true) (hp : A.prim f = none) (hm : A.mode f = .pure) (ha : stripL args = some args) (h : PureF P A f args d)
    (hk : K d H) : EvC P A f args H K Kp :=
  evC_pure hb hp hm (pures_strip ha) h (by simpa using hk)
theorem evF_run {f : FuncId} {args : List D} {d : D} (h : PureF P A f args d) (hd : flat d = true) : True := trivial
end

/-! ### the frame and the heap -/
theorem put_eq {e : Env} {i : Nat} {v : D} : put e i v i = v := by simp [put]
theorem put_ne {e : Env} {i j : Nat} {v : D} (h : j ≠ i) : put e i v j = e j := by simp [put, h]
theorem put_at {e : Env} {i j : Nat} {v : D} : put e i v j = if j = i then v else e j := rfl
theorem putO_some {e : Env} {i : Nat} {v : D} : putO e (some i) v = put e i v := rfl
theorem putO_none {e : Env} {v : D} : putO e none v = e := rfl
theorem hget_app {H L : Heap} {k : Nat} : hget (H ++ L) (H.length + k) = hget L k := by
  simp only [hget, List.getD_eq_getElem?_getD]
  rw [List.getElem?_append_right (by omega)]; simp
theorem hget_app0 {H L : Heap} : hget (H ++ L) H.length = hget L 0 := by
  have := hget_app (H := H) (L := L) (k := 0)
  rwa [Nat.add_zero] at this
theorem set_app {H L : Heap} {k : Nat} {o : Ob} : (H ++ L).set (H.length + k) o = H ++ L.set k o := by
  rw [List.set_append_right _ _ (by omega)]; simp
theorem set_app0 {H L : Heap} {o : Ob} : (H ++ L).set H.length o = H ++ L.set 0 o := by
  have := set_app (H := H) (L := L) (k := 0) (o := o)
  rwa [Nat.add_zero] at this
theorem hget_cons0 {o : Ob} {L : Heap} : hget (o :: L) 0 = o := rfl
theorem hget_consS {o : Ob} {L : Heap} {k : Nat} : hget (o :: L) (k + 1) = hget L k := rfl
end Vm
end
/- Rules for ranges over functions and their rounds; plain facts on data. -/
section
set_option linter.unusedVariables false
set_option linter.unusedSimpArgs false
namespace Vm
open Go

section
variable {P : Program} {A : Ann} {N : Nat} {e : Env} {H : Heap} {Q : Ex → Env → Heap → Prop}
/-- what holds behind the function that is ranged over -/
def RangeQ (e : Env) (l : List Dfr) (r : Nat) (Q : Ex → Env → Heap → Prop) (H2 : Heap) : Prop :=
  ∃ lp, hget H2 r = .loop lp ∧ lp.st ≠ .busy ∧ ((lp.pend = none ∧ Q .norm ⟨e.f, some (.mark :: l)⟩ (H2.set r .dead)) ∨ (lp.pend = some .ret ∧ Q .ret ⟨e.f, some (.mark :: l)⟩ (H2.set r .dead)) ∨
    ∃ id, lp.pend = some (.exit id) ∧ Q (.exit id) ⟨e.f, some (.mark :: l)⟩ (H2.set r .dead))
theorem wpc_range {g : Operand} {ps : Array Tmp} {assign body : Code} {l : List Dfr} {f : FuncId} {cs : List D} (hd : e.df = some l) (hg : evalO e g = some (.fn f cs)) (hb : bodied P f = true) (hl : l.all callQ = true)
    (h : EvF P A f (.yld H.length :: cs) (H ++ [.loop ⟨.ready, none, e.f, N, ps, assign, body⟩]) (fun _ H2 => RangeQ e l H.length Q H2) (fun _ _ => False)) : WpC P A N (.rangeFunc g ps assign body) e H Q := by
  obtain ⟨k, r, h1, h2⟩ := h
  cases r with
  | pan d H2 => exact h2.elim
  | ok d H2 =>
    obtain ⟨lp, g1, g2, g3⟩ := h2
    have hc : ¬ (bodied P f = false ∨ l.all callQ = false) := by simp [hb, hl]
    have key : ∀ {s : St}, (match lp.pend with | none => some ⟨.norm, ⟨e.f, some (.mark :: l)⟩, H2.set H.length .dead⟩ | some c => jumpD c ⟨e.f, some (.mark :: l)⟩ (H2.set H.length .dead)) = some s → Q s.ex s.e s.H → WpC P A N (.rangeFunc g ps assign body) e H Q := by
      intro s hs hq
      refine ⟨k, s, ?_, hq⟩
      simp only [runC, hd, Option.bind_some, hg, if_neg hc, h1, g1, if_neg g2]
      exact hs
    rcases g3 with ⟨g4, g5⟩ | ⟨g4, g5⟩ | ⟨id, g4, g5⟩
    · exact key (s := ⟨.norm, _, _⟩) (by rw [g4]) g5
    · exact key (s := ⟨.ret, _, _⟩) (by rw [g4]; rfl) g5
    · exact key (s := ⟨.exit id, _, _⟩) (by rw [g4]; rfl) g5
/-- what holds behind a round's body -/
def RoundQ (r : Nat) (K : D → Heap → Prop) (x : Ex) (e : Env) (H : Heap) : Prop :=
  ∃ j lp, leftD x = some j ∧ hget H r = .loop lp ∧ K (.bool j.isNone) (H.set r (.loop { lp with st := if j.isNone then .ready else .done, pend := j }))
def BeginQ (P : Program) (A : Ann) (r N : Nat) (body : Code) (K : D → Heap → Prop) (x : Ex) (e : Env) (H : Heap) : Prop :=
  x = .norm ∧ ∃ lp, hget H r = .loop lp ∧ lp.st = .ready ∧ WpC P A N body e (H.set r (.loop { lp with st := .busy })) (RoundQ r K)
theorem evF_round {r : Nat} {args : List D} {lp : Lp} {K Kp : D → Heap → Prop} (hg : hget H r = .loop lp) (hr : lp.st = .ready) (ha : args.length = lp.ps.size) (hp : (lp.ps.toList.all fun t => decide (t < lp.N)) = true)
    (h : WpC P A lp.N lp.assign ⟨putsD lp.tmps (lp.ps.toList.zip args), none⟩ H (BeginQ P A r lp.N lp.body K)) : EvF P A (P.funcs.size + r) args H K Kp := by
  obtain ⟨k, s, h1, h2, l1, h3, h4, k2, s2, h5, j, l2, h6, h7, h8⟩ := h
  obtain ⟨x, e1, H1⟩ := s
  simp only at h2 h3 h4 h5
  subst h2
  refine ⟨max k k2 + 1, .ok (.bool j.isNone) (s2.H.set r (.loop { l2 with st := if j.isNone then .ready else .done, pend := j })), ?_, h8⟩
  have r1 := runRun_mono (Nat.le_max_left k k2) _ _ _ _ _ h1
  have r2 := runRun_mono (Nat.le_max_right k k2) _ _ _ _ _ h5
  have hn : P.funcs[P.funcs.size + r]? = none := Array.getElem?_eq_none (by omega)
  have e3 : P.funcs.size + r - P.funcs.size = r := by omega
  simp only [runF, hn, e3, roundD, hg, lpOf, Option.bind_some, hr, ha, hp, and_self, if_true, r1, h3, h4, r2, h6, h7]
end

section
variable {P : Program} {A : Ann} {N : Nat} {e : Env} {H : Heap} {Q : Ex → Env → Heap → Prop}
theorem wpc_mid {a b : Code} (I : Env → Heap → Prop) (h : WpC P A N a e H (SeqQ I Q)) (k : ∀ e H, I e H → WpC P A N b e H Q) : WpC P A N (.seq a b) e H Q :=
  wpc_seq (h.mono fun x e H hx => by cases x <;> first | exact k _ _ hx | exact hx)
end

/-! ### plain data -/
theorem tmod_pos {a b : Int} (h : 0 ≤ a) : a.tmod b = a % b := Int.tmod_eq_emod_of_nonneg h
theorem tmod_neg {a b : Int} (h : a < 0) : a.tmod b = -((-a) % b) := by
  have : a.tmod b = -((-a).tmod b) := by rw [Int.neg_tmod, Int.neg_neg]
  rw [this, tmod_pos (by omega)]

theorem outPure_strip {H : Heap} {d d' : D} (h : strip d = some d') : outPure H d = some d' := by
  simp [outPure, deepest, pur, h]
theorem outPure_int {H : Heap} {k : IntKind} {n : Int} : outPure H (.int k n) = some (.int k n) := outPure_strip rfl
theorem outPure_bool {H : Heap} {b : Bool} : outPure H (.bool b) = some (.bool b) := outPure_strip rfl
theorem outPure_str {H : Heap} {s : List UInt8} : outPure H (.str s) = some (.str s) := outPure_strip rfl
theorem oneD_one {d : D} : oneD [d] = d := rfl
theorem df_put {e : Env} {i : Nat} {v : D} : (put e i v).df = e.df := rfl
theorem wi64 {n : Int} (h0 : -9223372036854775808 ≤ n) (h1 : n < 9223372036854775808) : IntKind.i64.wrap n = n := by
  rw [IntKind.wrap_i64]; omega
def natOf : D → Nat
  | .int _ n => n.toNat
  | _ => 0
theorem natOf_int {k : IntKind} {n : Int} : natOf (.int k n) = n.toNat := rfl
theorem evF_pan_false {P : Program} {A : Ann} {f : FuncId} {args : List D} {H : Heap} {K Kp : D → Heap → Prop} (h : EvF P A f args H K (fun _ _ => False)) : EvF P A f args H K Kp := h.mono (fun _ _ h => h) (fun _ _ h => h.elim)
end Vm
end
/- Lists that grow by one. -/
section
set_option linter.unusedVariables false
set_option linter.unusedSimpArgs false
namespace Vm
open Go

/-- a list of one's own, as it lies now -/
def VecIs (d : D) (H : Heap) (xs : List D) : Prop :=
  (xs = [] ∧ d = .sl true []) ∨ (xs ≠ [] ∧ ∃ r, d = .vec r 0 xs.length ∧ hget H r = .arr xs ∧ r < H.length)
theorem VecIs.nil {H : Heap} : VecIs (.sl true []) H [] := .inl ⟨rfl, rfl⟩
theorem hget_app_lt {H L : Heap} {r : Nat} (h : r < H.length) : hget (H ++ L) r = hget H r := by
  simp [hget, List.getD_eq_getElem?_getD, List.getElem?_append_left h]
theorem VecIs.grow {d : D} {H L : Heap} {xs : List D} (h : VecIs d H xs) : VecIs d (H ++ L) xs := by
  rcases h with h | ⟨h1, r, h2, h3, h4⟩
  · exact .inl h
  · exact .inr ⟨h1, r, h2, by rw [hget_app_lt h4, h3], by simp; omega⟩
theorem VecIs.out {d : D} {H : Heap} {xs : List D} (h : VecIs d H xs) (hs : stripL xs = some xs) : outPure H d = some (.sl false xs) := by
  rcases h with ⟨rfl, rfl⟩ | ⟨h1, r, rfl, h3, h4⟩
  · exact outPure_strip rfl
  · have e1 : pur deepest H (.vec r 0 xs.length) = (if 0 + xs.length ≤ xs.length then (purL (pur (4 + 1)) (H.set r (.fro xs)) ((xs.drop 0).take xs.length)).map fun (l, H) => (.sl false l, H) else none) := by
      unfold deepest
      rw [pur]
      simp only [strip, h3]
    rw [outPure, e1, if_pos (by omega), List.drop_zero, List.take_length, purL_strip hs]
    rfl
theorem append_one {P : Program} {t e : TypeId} {n w : Nat} {z d q : D} {H : Heap} {xs : List D} (he : elemT P t = some e) (hn : sizeT P e = some n) (hw : bytesT P e = some w) (hz : zeroT P e = some z) (hzn : z.cells.length = n) (hw0 : w ≠ 0)
    (h : VecIs d H xs) (hq : q.cells.length = n) (hs : strip q = some q) (hx : headSize n xs = true) (hm : (xs.length + 1) * w ≤ mostBytes) :
    ∃ d' H', appendD P t (H ++ [.arr [q]]) d (.vec H.length 0 1) = some (d', H') ∧ VecIs d' H' (xs ++ [q]) := by
  have hadd : addedD (H ++ [.arr [q]]) (.vec H.length 0 1) = some ([q], H ++ [.arr [q]]) := by
    have : pures (H ++ [.arr [q]]) [q] = some ([q], H ++ [.arr [q]]) := pures_strip (by simp [stripL, hs])
    simp [addedD, elems, hget_app0, hget_cons0, this]
  have hqs : headSize n [q] = true := by simp [headSize, hq]
  rcases h with ⟨rfl, rfl⟩ | ⟨h1, r, rfl, h3, h4⟩
  · refine ⟨.vec (H ++ [Ob.arr [q]]).length 0 1, H ++ [.arr [q]] ++ [.arr [q]], ?_, .inr ⟨by simp, (H ++ [Ob.arr [q]]).length, rfl, ?_, by simp⟩⟩
    · simp only [appendD, he, hn, hw, hz, Option.bind_some, hadd, hzn]
      simp [hw0, hqs, headSize]
      exact ⟨hq, by simpa using hm⟩
    · have := hget_app0 (H := H ++ [.arr [q]]) (L := [.arr [q]])
      rw [this]; rfl
  · have hg : hget (H ++ [.arr [q]]) r = .arr xs := by rw [hget_app_lt h4, h3]
    have hne : xs.isEmpty = false := by simpa using h1
    refine ⟨.vec (H ++ [Ob.arr [q]]).length 0 (xs.length + 1), (H ++ [Ob.arr [q]]).set r Ob.dead ++ [Ob.arr (xs ++ [q])], ?_, .inr ⟨by simp, (H ++ [Ob.arr [q]]).length, by simp, ?_, by simp⟩⟩
    · simp only [appendD, he, hn, hw, hz, Option.bind_some, hadd, hzn]
      simp [hw0, hqs, hg, hx, hne, hm]
    · have := hget_app0 (H := (H ++ [Ob.arr [q]]).set r Ob.dead) (L := [Ob.arr (xs ++ [q])])
      rw [List.length_set] at this
      rw [this]; rfl
end Vm
end
