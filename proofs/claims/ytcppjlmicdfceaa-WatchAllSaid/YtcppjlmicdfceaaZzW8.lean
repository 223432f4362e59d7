/- Code and calls of the interpreter are the model's. -/
import Derived.Test.YtcppjlmicdfceaaZzW7
import Derived.Test.YtcppjlmicdfceaaZzX2
import Derived.TacticsIn
set_option linter.unusedVariables false
set_option linter.unusedSimpArgs false
namespace Vm
open Go Go.RowKit

/-- where code ends, in both -/
def exOf (v : Value) : Ex → Exit
  | .norm => .normal
  | .exit i => .exit i
  | .ret => .ret
  | .pan _ => .panic [{ v, recovered := false }]
/-- no object's block -/
def unowned (ρ : Rho) (H : Heap) (b : Nat) : Prop := ∀ r, r < H.length → live (hget H r) → (ρ r).b ≠ b
/-- the calls that wait, in both; blocks from n0 on are the function's own -/
inductive DfL (ρ : Rho) (n0 : Nat) (im : Im) (H : Heap) (w : World) : List Deferred → List Dfr → Prop
  | nil : DfL ρ n0 im H w [] []
  | call (g : FuncId) (vs us : List Value) (ds : List D) (l : List Deferred) (l' : List Dfr) (h : RepA ρ H.length im (vs ++ us) ds) (hr : DfL ρ n0 im H w l l') :
      DfL ρ n0 im H w ({ target := .fn (.func g) ⟨us⟩, args := ⟨vs⟩ } :: l) (.call g ds :: l')
  | mark (b : Nat) (l : List Deferred) (l' : List Dfr) (hb : n0 ≤ b) (ho : w.heap[b]? = some (.deferred (some []))) (hu : unowned ρ H b) (hm : l'.all callQ = true) (hr : DfL ρ n0 im H w l l') :
      DfL ρ n0 im H w ({ target := .collected b, args := #[] } :: l) (.mark :: l')
structure DfR (ρ : Rho) (n0 : Nat) (im : Im) (H : Heap) (w : World) (ro : Option Nat) (ds : List Deferred) (df : Option (List Dfr)) : Prop where
  n : n0 ≤ w.heap.size
  r : ∀ l, df = some l → ro = none ∧ DfL ρ n0 im H w ds l
theorem unowned.mv {ρ ρ1 : Rho} {im im1 : Im} {H H1 : Heap} {w w1 : World} {b : Nat} (m : Mv ρ im H w ρ1 im1 H1 w1) (hb : b < w.heap.size) (h : unowned ρ H b) : unowned ρ1 H1 b := by
  intro r hr hl e
  obtain ⟨s, hs, hls, es⟩ := m.tr.own r hr hl (by omega)
  exact h s hs hls (by omega)
theorem DfL.mv {ρ ρ1 : Rho} {n0 : Nat} {im im1 : Im} {H H1 : Heap} {w w1 : World} (m : Mv ρ im H w ρ1 im1 H1 w1) : ∀ {ds : List Deferred} {l : List Dfr}, DfL ρ n0 im H w ds l → DfL ρ1 n0 im1 H1 w1 ds l
  | _, _, .nil => .nil
  | _, _, .call g vs us ds l l' h hr => .call g vs us ds l l' (m.repA h) (DfL.mv m hr)
  | _, _, .mark b l l' hb ho hu hm hr => by
    have hlt : b < w.heap.size := (Array.getElem?_eq_some_iff.1 ho).1
    exact .mark b l l' hb ((m.tr.keep b hlt hu).trans ho) (hu.mv m hlt) hm (DfL.mv m hr)
theorem DfR.mv {ρ ρ1 : Rho} {n0 : Nat} {im im1 : Im} {H H1 : Heap} {w w1 : World} {ro : Option Nat} {ds : List Deferred} {df : Option (List Dfr)} (m : Mv ρ im H w ρ1 im1 H1 w1) (h : DfR ρ n0 im H w ro ds df) : DfR ρ1 n0 im1 H1 w1 ro ds df :=
  ⟨Nat.le_trans h.n m.tr.size, fun l hl => ⟨(h.r l hl).1, (h.r l hl).2.mv m⟩⟩
/-- what holds behind code -/
structure After (ρ : Rho) (im : Im) (H : Heap) (w : World) (N : Nat) (n0 : Nat) (ro : Option Nat) (s : St) (x : Exit) (a' : Act) (w' : World) : Prop where
  ex : ∃ ρ' im', Mv ρ im H w ρ' im' s.H w' ∧ EnvR ρ' s.H.length im' N a' s.e ∧ DfR ρ' n0 im' s.H w' ro a'.defers s.e.df ∧ ∃ v, x = exOf v s.ex ∧ ∀ d, s.ex = .pan d → Rep ρ' s.H.length im' v d
theorem After.mv {ρ ρ1 : Rho} {im im1 : Im} {H H1 : Heap} {w w1 : World} {N : Nat} {n0 : Nat} {ro : Option Nat} {s : St} {x : Exit} {a' : Act} {w' : World} (m : Mv ρ im H w ρ1 im1 H1 w1) (h : After ρ1 im1 H1 w1 N n0 ro s x a' w') : After ρ im H w N n0 ro s x a' w' := by
  obtain ⟨ρ', im', h1, h2, h3, h4⟩ := h.ex
  exact ⟨ρ', im', m.trans h1, h2, h3, h4⟩
theorem putO_df {e : Env} {i : Option Nat} {d : D} : (putO e i d).df = e.df := by cases i <;> rfl
theorem put_defers {a : Act} {i : Option Nat} {v : Value} : (a.put i v).defers = a.defers := by cases i <;> rfl
theorem After.plain {ρ : Rho} {im : Im} {H : Heap} {w : World} {N : Nat} {n0 : Nat} {ro : Option Nat} {a : Act} {e : Env} {x : Ex} (hR : Rel ρ im H w) (he : EnvR ρ H.length im N a e) (hd : DfR ρ n0 im H w ro a.defers e.df) (hx : ∀ d, x ≠ .pan d) :
    After ρ im H w N n0 ro ⟨x, e, H⟩ (exOf .nilIface x) a w :=
  ⟨ρ, im, Mv.refl hR, he, hd, .nilIface, rfl, fun d h => absurd h (hx d)⟩

section
variable {P : Program} {A : Ann} {call : CallF} {N : Nat}

theorem yielded_wantD {ρ : Rho} {n : Nat} {im : Im} {a : Act} {e : Env} {ops : Array Oper} {o : Oper} {b : Bool} (he : EnvR ρ n im N a e) (h : wantD ops e o = some b) : Region.wanted o (yielded ops a.tmps) = b := by
  unfold wantD at h
  unfold Region.wanted
  cases hg : o.guard with
  | none => simp [hg] at h; simp [h]
  | some p =>
    obtain ⟨j, want⟩ := p
    simp only [hg] at h ⊢
    unfold yielded
    cases hd : (ops[j]?).bind (·.dst) with
    | none => simp [hd] at h; subst h; simp
    | some d =>
      simp only [hd] at h
      have hr := he.get d
      cases hed : e d with
      | bool c =>
        rw [hed] at hr
        simp [hed] at h
        have hv := hr.bool_inv
        rw [Array.getD_eq_getD_getElem?] at hv
        cases ht : a.tmps[d]? with
        | none => rw [ht] at hv; simp [undef] at hv
        | some v =>
          rw [ht] at hv
          simp at hv; subst hv
          simp [ht, ← h]
      | _ =>
        simp [hed] at h
        subst h
        rw [hed] at hr
        cases ht : a.tmps[d]? with
        | none => simp [ht]
        | some v =>
          rw [Array.getD_eq_getD_getElem?, ht] at hr
          simp at hr
          simp [ht]
          cases hr <;> simp
theorem pushD_ok {e e' : Env} {a : Act} {c : Call} {ρ : Rho} {n0 : Nat} {im : Im} {H : Heap} {w : World} {ro : Option Nat} {o : Oper} (ho : o.op = .defer c) (he : EnvR ρ H.length im N a e) (hd : DfR ρ n0 im H w ro a.defers e.df) (h : pushD P e c = some e') :
    ro = none ∧ ∃ d, (execOp a.eval o).run P w = .ok (.defer d) w ∧ EnvR ρ H.length im N { a with defers := d :: a.defers } e' ∧ DfR ρ n0 im H w ro (d :: a.defers) e'.df := by
  unfold pushD at h
  obtain ⟨l, h1, h2⟩ := bind_some h
  obtain ⟨hro, hl⟩ := hd.r l h1
  refine ⟨hro, ?_⟩
  cases hc : c.callee with
  | builtin b => simp [hc] at h2
  | invoke x y => simp [hc] at h2
  | value f =>
    simp only [hc] at h2
    obtain ⟨args, h3, h4⟩ := bind_some h2
    obtain ⟨df, h5, h6⟩ := bind_some h4
    have hf := evalO_rep he h5
    cases df <;> simp only at h6 <;> try (cases h6; done)
    rename_i g cs
    split at h6
    · rename_i hb
      simp at h6; subst h6
      generalize hv : a.eval f = v at hf
      cases hf with
      | fn _ vs _ hvs =>
        refine ⟨{ target := .fn (.func g) ⟨vs⟩, args := ⟨c.args.toList.map a.eval⟩ }, ?_, ⟨he.size, he.get⟩, ⟨hd.n, fun l' hl' => ⟨hro, ?_⟩⟩⟩
        · have e2 : c.args.map a.eval = ⟨c.args.toList.map a.eval⟩ := by apply Array.ext'; simp
          simp only [execOp, ho, Sem.run_bind, resolve_run (P := P) (w := w) hc hv, Result.andThen_ok, e2]
          rfl
        · simp at hl'; subst hl'
          exact .call g _ vs _ _ _ ((evalOs_rep he h3).append hvs) hl
    · cases h6
theorem runOps_ok (hA : PrimOk P A) (hcall : CallOk P call) {n0 : Nat} {ro : Option Nat} {n : Nat} {ops : Array Oper} {Q : Exit → Act → World → Prop} : ∀ (l : List Oper) {ρ : Rho} {im : Im} {H : Heap} {w : World} {a : Act} {e : Env} {s : St},
    Rel ρ im H w → EnvR ρ H.length im N a e → DfR ρ n0 im H w ro a.defers e.df → runOps P A call N ops l e H = some s → (∀ x a' w', After ρ im H w N n0 ro s x a' w' → Q x a' w') → wpListIn (FW ro) n P ops Q l a w
  | [], ρ, im, H, w, a, e, s, hR, he, hd, h, hQ => by
    simp [runOps] at h; subst h
    exact hQ _ _ _ (.plain hR he hd (fun d h => by cases h))
  | o :: rest, ρ, im, H, w, a, e, s, hR, he, hd, h, hQ => by
    simp only [runOps] at h
    split at h
    · cases h
    · rename_i hdst
      simp only [Bool.not_eq_false] at hdst
      cases hw : wantD ops e o with
      | none => simp [hw] at h
      | some b =>
        have hwant := yielded_wantD he hw
        unfold wpListIn
        rw [hwant]
        cases b with
        | false =>
          simp only [hw] at h
          simp only [Bool.false_eq_true, if_false]
          exact ⟨fun _ _ => trivial, runOps_ok hA hcall rest hR (he.put hdst rep_ud) (by rw [put_defers, putO_df]; exact hd) h hQ⟩
        | true =>
          simp only [hw] at h
          simp only [if_true]
          cases hdc : deferC o.op with
          | some c =>
            simp only [hdc] at h
            have ho : o.op = .defer c := by
              cases hop : o.op <;> simp [deferC, hop] at hdc
              rw [hdc]
            cases hp : pushD P e c with
            | none => simp [hp] at h
            | some e' =>
              simp only [hp] at h
              obtain ⟨hro, d, hrun, he', hd'⟩ := pushD_ok ho he hd hp
              refine ⟨fun _ _ => trivial, ?_⟩
              have : (o.semAt (FW ro).round a.eval).run P w = .ok (.defer d) w := by
                subst hro; exact hrun
              rw [this]
              exact runOps_ok hA hcall rest hR (he'.put hdst rep_ud) (by rw [put_defers, putO_df]; exact hd') h hQ
          | none =>
            simp only [hdc] at h
            cases hs : stepOp P A call o.op e H with
            | none => simp [hs] at h
            | some r =>
              have hop := stepOp_ok hA hcall (o := o) hR he hs
              refine hop ro n _ _ ?_ ?_
              · intro v w1 hout
                cases hout with
                | ok ρ1 im1 H1 _ _ d hm hv =>
                  simp only [hs] at h
                  exact runOps_ok hA hcall rest hm.rel ((hm.env he).put hdst hv) (by rw [put_defers, putO_df]; exact hd.mv hm) h fun x a' w' haf => hQ x a' w' (haf.mv hm)
              · intro ch w1 hout
                cases hout with
                | pan ρ1 im1 H1 _ v d hm hv =>
                  simp only [hs] at h
                  simp at h; subst h
                  exact hQ _ _ _ ⟨ρ1, im1, hm, hm.env he, hd.mv hm, v, rfl, fun d' hd => by cases hd; exact hv⟩

def CodeOk (P : Program) (N : Nat) (run : Env → Heap → Option St) (c : Code) : Prop :=
  ∀ (ρ : Rho) (im : Im) (H : Heap) (w : World) (a : Act) (e : Env) (s : St) (n0 : Nat) (ro : Option Nat) (n : Nat), Rel ρ im H w → EnvR ρ H.length im N a e → DfR ρ n0 im H w ro a.defers e.df → run e H = some s →
    c.wpIn (FW ro) n P (After ρ im H w N n0 ro s) a w

theorem iterC_ok {run : Env → Heap → Option St} {c : Code} (hc : CodeOk P N run c) : ∀ (k : Nat), CodeOk P N (iterC run k) (.loop c)
  | 0 => fun _ _ _ _ _ _ _ _ _ _ hR he hd h => by simp [iterC] at h
  | k + 1 => fun ρ im H w a e s n0 ro n hR he hd h => by
    intro b kk cs hro hb hroom
    have key : ∀ (k : Nat) {ρ : Rho} {im : Im} {H : Heap} {w : World} {a : Act} {e : Env} {s : St}, Rel ρ im H w → EnvR ρ H.length im N a e → DfR ρ n0 im H w ro a.defers e.df → iterC run k e H = some s →
        ∃ x a' w', After ρ im H w N n0 ro s x a' w' ∧ ArrivesIn (Machine.fenced P (FW ro)) P (lone (b.atR a (.code c :: .inLoop c :: kk)) cs w) b kk cs x a' w' := by
      intro k
      induction k with
      | zero => intro ρ im H w a e s hR he hd h; simp [iterC] at h
      | succ k ih =>
        intro ρ im H w a e s hR he hd h
        simp only [iterC] at h
        cases hr : run e H with
        | none => simp [hr] at h
        | some s1 =>
          obtain ⟨x1, a1, w1, haf, harr⟩ := hc _ _ _ _ _ _ _ n0 ro n hR he hd hr b (.inLoop c :: kk) cs hro hb hroom
          obtain ⟨ρ1, im1, hm, he1, hd1, v1, hx1, hp1⟩ := haf.ex
          obtain ⟨ex1, e1, H1⟩ := s1
          cases ex1 with
          | norm =>
            simp only [hr] at h
            simp only [exOf] at hx1
            subst hx1
            obtain ⟨x2, a2, w2, haf2, harr2⟩ := ih hm.rel he1 hd1 h
            exact ⟨x2, a2, w2, haf2.mv hm, .of_steps (StepsIn.trans harr (.one (fenced_calm hb hroom rfl) stepR_inLoop)) harr2⟩
          | _ =>
            simp only [hr] at h
            simp at h; subst h
            simp only [exOf] at hx1
            subst hx1
            exact ⟨_, a1, w1, haf, .pass (x := .inLoop c) rfl (fun _ _ => .inl (by simp)) harr⟩
    obtain ⟨x, a', w', q, harr⟩ := key (k + 1) hR he hd h
    exact ⟨x, a', w', q, .of_steps (.one (fenced_calm hb hroom rfl) stepR_loop) harr⟩

end
end Vm
