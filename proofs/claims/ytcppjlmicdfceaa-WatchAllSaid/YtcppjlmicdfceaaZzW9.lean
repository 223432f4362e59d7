/- A call that the interpreter makes is the model's call. -/
import Derived.Test.YtcppjlmicdfceaaZzD3
set_option linter.unusedVariables false
set_option linter.unusedSimpArgs false
namespace Vm
open Go Go.RowKit

section
variable {P : Program} {A : Ann} {ρ : Rho} {im : Im} {H : Heap} {w : World} {n N : Nat} {a : Act} {e : Env}

theorem getD_append_undef (vs : List Value) (m i : Nat) : ((⟨vs⟩ : Array Value) ++ Array.replicate m undef).getD i undef = vs.getD i undef := by
  rw [Array.getD_eq_getD_getElem?, Array.getElem?_append, List.getD_eq_getElem?_getD]
  split
  · rename_i h; simp
  · rename_i h
    simp at h
    rw [List.getElem?_eq_none h, Array.getElem?_replicate]
    split <;> rfl
theorem repA_getD : ∀ {vs : List Value} {ds : List D}, RepA ρ n im vs ds → ∀ i, Rep ρ n im (vs.getD i undef) (ds.getD i ud)
  | _, _, .nil, i => by simp; exact rep_ud
  | _, _, .cons v d vs ds h hr, 0 => by simpa using h
  | _, _, .cons v d vs ds h hr, i + 1 => by simpa using repA_getD hr i
theorem env_enter {vs : List Value} {ds : List D} (h : RepA ρ n im vs ds) (hN : ds.length ≤ N) : EnvR ρ n im N { tmps := ⟨vs⟩ ++ Array.replicate (N - (⟨vs⟩ : Array Value).size) undef, defers := [] } (ofArgs ds) := by
  have hl := h.length
  refine ⟨by simp; omega, fun i => ?_⟩
  show Rep ρ n im ((⟨vs⟩ ++ Array.replicate (N - (⟨vs⟩ : Array Value).size) undef : Array Value).getD i undef) (ofArgs ds i)
  rw [getD_append_undef]
  exact repA_getD h i

theorem loadVar_of {t : TypeId} {pv v : Value} (h : (Instr.loadAt t pv).run P w = .ok v w) (hp : ∃ x, pv = .pointer (some x)) : ((do loadVar t (← asAddr pv) : Sem Value)).run P w = .ok v w := by
  obtain ⟨x, rfl⟩ := hp
  simpa [Instr.loadAt, Instr.sureAddr, asAddr] using h
theorem resD_run (hR : Rel ρ im H w) (he : EnvR ρ H.length im N a e) : ∀ {rs : List ResultVar} {l : List D}, resD P e H rs = some l →
    ∃ vs, (rs.mapM (fun (r : ResultVar) => (match r with | .tmp t => pure (a.tmps.getD t undef) | .cell x t => do loadVar t (← asAddr (a.tmps.getD x undef)) : Sem Value))).run P w = .ok vs w ∧ RepA ρ H.length im vs l
  | [], l, h => by simp [resD] at h; subst h; exact ⟨[], by simp, .nil⟩
  | .tmp t :: r, l, h => by
    simp only [resD] at h
    obtain ⟨l', h1, rfl⟩ := map_some h
    obtain ⟨vs, g1, g2⟩ := resD_run hR he h1
    exact ⟨_ :: vs, by simp only [List.mapM_cons, Sem.run_bind, Sem.run_pure, Result.andThen_ok, g1], .cons _ _ _ _ (he.get t) g2⟩
  | .cell x t :: r, l, h => by
    simp only [resD] at h
    obtain ⟨d, h1, h2⟩ := bind_some h
    obtain ⟨l', h3, rfl⟩ := map_some h2
    obtain ⟨vs, g1, g2⟩ := resD_run hR he h3
    obtain ⟨v, g3, g4⟩ := loadD_run (P := P) hR (he.get x) h1
    have hp : ∃ y, a.tmps.getD x undef = .pointer (some y) := by
      have := he.get x
      generalize hv : a.tmps.getD x undef = v at this
      cases hx : e x with
      | ptr _ _ _ => rw [hx] at this; cases this; exact ⟨_, rfl⟩
      | ept _ _ => rw [hx] at this; cases this; exact ⟨_, rfl⟩
      | _ => rw [hx] at h1; simp [loadD] at h1
    have g5 := loadVar_of g3 hp
    refine ⟨v :: vs, ?_, .cons _ _ _ _ g4 g2⟩
    simp only [List.mapM_cons, Sem.run_bind] at g5 ⊢
    simp only [g5, Result.andThen_ok, g1, Sem.run_pure]
theorem results_run {fn : Func} (hR : Rel ρ im H w) (he : EnvR ρ H.length im N a e) {l : List D} (h : resD P e H fn.results.toList = some l) : ∃ v, (results fn a.tmps).run P w = .ok v w ∧ Rep ρ H.length im v (oneD l) := by
  obtain ⟨vs, h1, h2⟩ := resD_run hR he h
  have e0 : results fn a.tmps = (do
      let vs ← fn.results.mapM (fun (r : ResultVar) => (match r with | .tmp t => pure (a.tmps.getD t undef) | .cell x t => do loadVar t (← asAddr (a.tmps.getD x undef)) : Sem Value))
      pure (if h : vs.size = 1 then vs[0] else .tuple vs)) := rfl
  rw [e0]
  have hm : (fn.results.mapM (fun (r : ResultVar) => (match r with | .tmp t => pure (a.tmps.getD t undef) | .cell x t => do loadVar t (← asAddr (a.tmps.getD x undef)) : Sem Value))).run P w = .ok vs.toArray w := by
    rw [Array.mapM_eq_mapM_toList]
    simp only [Sem.run_map, h1, Result.andThen_ok]
  simp only [Sem.run_bind]
  rw [hm]
  simp only [Result.andThen_ok, Sem.run_pure]
  refine ⟨_, rfl, ?_⟩
  have hlen := h2.length
  match vs, l, h2 with
  | [], [], h2 => simpa [oneD] using Rep.tup [] [] h2
  | [v], [d], .cons _ _ _ _ hv _ => simpa [oneD] using hv
  | v :: u :: vs, d :: f :: l, h2 => simpa [oneD] using Rep.tup _ _ h2

/-! ### how a function is left -/
inductive MdR (ρ : Rho) (n : Nat) (im : Im) : FrameMode → Md → Prop
  | ret : MdR ρ n im .returning .ret
  | pan (v : Value) (d : D) (h : Rep ρ n im v d) : MdR ρ n im (.panicking [{ v, recovered := false }]) (.pan d)
  | rcv (v : Value) (d : D) (h : Rep ρ n im v d) : MdR ρ n im (.panicking [{ v, recovered := true }]) (.rcv d)
theorem MdR.mv {ρ1 : Rho} {im1 : Im} {H1 : Heap} {w1 : World} {u : FrameMode} {m : Md} (h : MdR ρ H.length im u m) (k : Mv ρ im H w ρ1 im1 H1 w1) : MdR ρ1 H1.length im1 u m := by
  cases h with
  | ret => exact .ret
  | pan v d h => exact .pan v d (k.rep h)
  | rcv v d h => exact .rcv v d (k.rep h)
theorem MdR.settle {u : FrameMode} {m : Md} (h : MdR ρ n im u m) : MdR ρ n im (Go.settle u) m.settle := by
  cases h with
  | ret => exact .ret
  | pan v d h => exact .pan v d h
  | rcv v d h => exact .ret
theorem MdR.run {u : FrameMode} {m : Md} (h : MdR ρ n im u m) : u ≠ .run := by cases h <;> exact fun e => by cases e
theorem recD_ok {u : FrameMode} {m : Md} (h : MdR ρ n im u m) (c₀ : Frame) (cs : List Frame) :
    (match recoverD ({ c₀ with mode := u } :: cs) with
      | some (v, cs') => Rep ρ n im v (recD m).1 ∧ ∃ u', cs' = { c₀ with mode := u' } :: cs ∧ MdR ρ n im u' (recD m).2
      | none => (recD m) = (.nili, m)) := by
  cases h with
  | ret => simp [recoverD, recD]
  | pan v d h => simp only [recoverD]; exact ⟨h, _, rfl, .rcv v d h⟩
  | rcv v d h => simp [recoverD, recD]
theorem plain_run {ρe : Operand → Value} {o : Oper} (h : plainO o.op = true) {y : Next} {w' : World} (hr : (execOp ρe o).run P w = .ok y w') : (∃ v, y = .value v) ∨ y = .skip := by
  have vl : ∀ {s : Sem Value}, ((do pure (.value (← s)) : Sem Next)).run P w = .ok y w' → ∃ v, y = .value v := fun {s} h => by
    simp only [Sem.run_bind] at h
    cases hs : s.run P w with
    | ok v w1 => simp [hs] at h; exact ⟨v, h.1.symm⟩
    | halt _ _ => simp [hs] at h
  have sk : ∀ {s : Sem Unit}, ((do s; pure .skip : Sem Next)).run P w = .ok y w' → y = .skip := fun {s} h => by
    simp only [Sem.run_bind] at h
    cases hs : s.run P w with
    | ok v w1 => simp [hs] at h; exact h.1.symm
    | halt _ _ => simp [hs] at h
  cases ho : o.op <;> rw [ho] at h <;> simp only [plainO] at h <;> first | (cases h; done) | skip
  all_goals simp only [execOp, ho] at hr
  case move => simp at hr; exact .inl ⟨_, hr.1.symm⟩
  case assign => simp at hr; exact .inl ⟨_, hr.1.symm⟩
  case pick c x y' =>
    left
    simp only [Sem.run_bind] at hr
    cases hs : (asBool (ρe c)).run P w with
    | ok v w1 => simp [hs] at hr; exact ⟨_, hr.1.symm⟩
    | halt _ _ => simp [hs] at hr
  case store => exact .inr (sk hr)
  all_goals exact .inl (vl hr)

/-- what holds behind code of a call that waited -/
structure AfterS (ρ : Rho) (im : Im) (H : Heap) (w : World) (N : Nat) (n0 : Nat) (c₀ : Frame) (cs : List Frame) (s : St) (m : Md) (x : Exit) (a' : Act) (cs' : List Frame) (w' : World) : Prop where
  ex : ∃ ρ' im' u', cs' = { c₀ with mode := u' } :: cs ∧ Mv ρ im H w ρ' im' s.H w' ∧ EnvR ρ' s.H.length im' N a' s.e ∧ DfR ρ' n0 im' s.H w' none a'.defers s.e.df ∧ MdR ρ' s.H.length im' u' m ∧
    ∃ v, x = exOf v s.ex ∧ ∀ d, s.ex = .pan d → Rep ρ' s.H.length im' v d
theorem AfterS.mv {ρ1 : Rho} {im1 : Im} {H1 : Heap} {w1 : World} {n0 : Nat} {c₀ : Frame} {cs : List Frame} {s : St} {m : Md} {x : Exit} {a' : Act} {cs' : List Frame} {w' : World} (k : Mv ρ im H w ρ1 im1 H1 w1) (h : AfterS ρ1 im1 H1 w1 N n0 c₀ cs s m x a' cs' w') :
    AfterS ρ im H w N n0 c₀ cs s m x a' cs' w' := by
  obtain ⟨ρ', im', u', h1, h2, h3⟩ := h.ex
  exact ⟨ρ', im', u', h1, k.trans h2, h3⟩
theorem recover_run {ρe : Operand → Value} {o : Oper} (h : recoverC o.op = true) (w : World) : (execOp ρe o).run P w = .ok .recover w := by
  cases ho : o.op <;> rw [ho] at h <;> simp [recoverC] at h
  rename_i c
  cases hc : c.callee <;> simp [hc] at h
  rename_i b
  cases b <;> simp at h
  simp only [execOp, ho, resolve, hc, Sem.run_bind, Sem.run_pure, Result.andThen_ok, invoke]
  simp [builtin]
theorem runOpsS_ok (hA : PrimOk P A) {n0 : Nat} {n : Nat} {ops : Array Oper} {c₀ : Frame} {cs : List Frame} {Q : Exit → Act → List Frame → World → Prop} : ∀ (l : List Oper) (k : Nat) {ρ : Rho} {im : Im} {H : Heap} {w : World} {a : Act} {e : Env} {m : Md} {u : FrameMode} {e' : Env} {H' : Heap} {m' : Md},
    (∀ j, l[j]? = ops[k + j]?) → Rel ρ im H w → EnvR ρ H.length im N a e → DfR ρ n0 im H w none a.defers e.df → MdR ρ H.length im u m → runOpsS P A N ops l e H m = some (e', H', m') →
    (∀ x a' cs' w', AfterS ρ im H w N n0 c₀ cs ⟨.norm, e', H'⟩ m' x a' cs' w' → Q x a' cs' w') → wpOpsSIn (FW none) n P ops Q (List.range' k l.length) a ({ c₀ with mode := u } :: cs) w
  | [], k, ρ, im, H, w, a, e, m, u, e', H', m', hl, hR, he, hd, hm, h, hQ => by
    simp [runOpsS] at h
    obtain ⟨rfl, rfl, rfl⟩ := h
    exact hQ _ _ _ _ ⟨ρ, im, u, rfl, Mv.refl hR, he, hd, hm, .nilIface, rfl, fun d hd => by cases hd⟩
  | o :: rest, k, ρ, im, H, w, a, e, m, u, e', H', m', hl, hR, he, hd, hm, h, hQ => by
    have ho : ops[k]? = some o := by simpa using (hl 0).symm
    have hl' : ∀ j, rest[j]? = ops[k + 1 + j]? := fun j => by have := hl (j + 1); simpa [Nat.add_assoc, Nat.add_comm 1 j] using this
    simp only [List.length_cons, List.range'_succ, wpOpsSIn, ho]
    simp only [runOpsS] at h
    refine ⟨fun _ _ => trivial, ?_⟩
    split at h
    · cases h
    · rename_i hdst
      simp only [Bool.not_eq_false] at hdst
      cases hw : wantD ops e o with
      | none => simp [hw] at h
      | some b =>
        have hwant := yielded_wantD he hw
        rw [hwant]
        cases b with
        | false =>
          simp only [hw] at h
          simp only [Bool.false_eq_true, if_false]
          exact runOpsS_ok hA rest (k + 1) hl' hR (he.put hdst rep_ud) (by rw [put_defers, putO_df]; exact hd) hm h hQ
        | true =>
          simp only [hw] at h
          simp only [if_true]
          split at h
          · rename_i hrec
            rw [recover_run hrec w]
            have hrr := recD_ok hm c₀ cs
            cases hrd : recoverD ({ c₀ with mode := u } :: cs) with
            | none =>
              rw [hrd] at hrr
              simp only at hrr ⊢
              rw [hrr] at h
              exact runOpsS_ok hA rest (k + 1) hl' hR (he.put hdst .nili) (by rw [put_defers, putO_df]; exact hd) hm h hQ
            | some q =>
              obtain ⟨v, cs'⟩ := q
              rw [hrd] at hrr
              obtain ⟨hv, u', rfl, hm'⟩ := hrr
              exact runOpsS_ok hA rest (k + 1) hl' hR (he.put hdst hv) (by rw [put_defers, putO_df]; exact hd) hm' h hQ
          · split at h
            · cases h
            · rename_i hpl
              simp only [Bool.not_eq_false] at hpl
              cases hs : stepOp P A (fun _ _ _ => none) o.op e H with
              | none => simp [hs] at h
              | some r =>
                cases r with
                | pan _ _ => simp [hs] at h
                | ok d H1 =>
                  simp only [hs] at h
                  have hop := stepOp_ok hA (fun _ _ _ _ hc => by cases hc) (o := o) hR he hs none n (fun a' w' => ∃ v, OutR ρ im H w (.ok d H1) (.returned v) w' ∧ a' = a.put o.dst v) (fun _ _ _ => False) (fun v w' hout => ⟨v, hout, rfl⟩) (fun ch w' hout => by cases hout)
                  have hun := hop.2
                  simp only [FW, Oper.semAt_none] at hun
                  have next : ∀ {v : Value} {w1 : World}, OutR ρ im H w (.ok d H1) (.returned v) w1 → wpOpsSIn (FW none) n P ops Q (List.range' (k + 1) rest.length) (a.put o.dst v) ({ c₀ with mode := u } :: cs) w1 := fun {v w1} hout => by
                    cases hout with
                    | ok ρ1 im1 _ _ _ _ hmv hv =>
                      exact runOpsS_ok hA rest (k + 1) hl' hmv.rel ((hmv.env he).put hdst hv) (by rw [put_defers, putO_df]; exact hd.mv hmv) (hm.mv hmv) h fun x a' cs' w' haf => hQ x a' cs' w' (haf.mv hmv)
                  cases hrun : (execOp a.eval o).run P w with
                  | halt x w1 =>
                    rw [hrun] at hun
                    cases x <;> exact hun.elim
                  | ok y w1 =>
                    rw [hrun] at hun
                    rcases plain_run hpl hrun with ⟨v, rfl⟩ | rfl
                    · obtain ⟨v', hout, hput⟩ := (hun : ∃ v', OutR ρ im H w (.ok d H1) (.returned v') w1 ∧ a.put o.dst v = a.put o.dst v')
                      show wpOpsSIn (FW none) n P ops Q (List.range' (k + 1) rest.length) (a.put o.dst v) _ w1
                      rw [hput]
                      exact next hout
                    · obtain ⟨v', hout, hput⟩ := (hun : ∃ v', OutR ρ im H w (.ok d H1) (.returned v') w1 ∧ a.put o.dst undef = a.put o.dst v')
                      show wpOpsSIn (FW none) n P ops Q (List.range' (k + 1) rest.length) (a.put o.dst undef) _ w1
                      rw [hput]
                      exact next hout
end
end Vm
