/- Reasoning about the interpreter: more rounds give the same; what code and calls come to. -/
import Derived.Test.YtcppjlmicdfceaaZzWa
set_option linter.unusedVariables false
set_option linter.unusedSimpArgs false
namespace Vm
open Go

def CallLe (c c' : CallF) : Prop := ∀ f args H r, c f args H = some r → c' f args H = some r
def noCall : CallF := fun _ _ _ => none
theorem noCall_le (c : CallF) : CallLe noCall c := fun _ _ _ _ h => by simp [noCall] at h
section
variable {P : Program} {A : Ann} {N : Nat} {c c' : CallF}
theorem callD_mono (h : CallLe c c') {f : FuncId} {args : List D} {H : Heap} {r : R} (hc : callD P A c f args H = some r) : callD P A c' f args H = some r := by
  unfold callD at hc ⊢
  by_cases hb : bodied P f = false
  · rw [if_pos hb] at hc; cases hc
  · rw [if_neg hb] at hc ⊢
    cases hp : A.prim f with
    | some p => simp only [hp] at hc ⊢; exact hc
    | none =>
      simp only [hp] at hc ⊢
      cases hm : A.mode f with
      | state => simp only [hm] at hc ⊢; exact h _ _ _ _ hc
      | pure =>
        simp only [hm] at hc ⊢
        obtain ⟨⟨as, H'⟩, h1, h2⟩ := bind_some hc
        obtain ⟨r', h3, h4⟩ := bind_some h2
        simp only [h1, Option.bind_some, h _ _ _ _ h3]
        exact h4
      | fresh =>
        simp only [hm] at hc ⊢
        obtain ⟨⟨as, H'⟩, h1, h2⟩ := bind_some hc
        obtain ⟨r', h3, h4⟩ := bind_some h2
        simp only [h1, Option.bind_some, h _ _ _ _ h3]
        exact h4
theorem stepOp_mono (h : CallLe c c') {o : Op} {e : Env} {H : Heap} {r : R} (hc : stepOp P A c o e H = some r) : stepOp P A c' o e H = some r := by
  cases o
  case call k =>
    simp only [stepOp] at hc ⊢
    obtain ⟨args, h1, h2⟩ := bind_some hc
    rw [h1]
    simp only [Option.bind_some]
    cases hk : k.callee with
    | builtin b => simpa [hk] using h2
    | invoke x y => simp [hk] at h2
    | value f =>
      simp only [hk] at h2 ⊢
      obtain ⟨d, h3, h4⟩ := bind_some h2
      rw [h3]
      simp only [Option.bind_some]
      cases d <;> simp only at h4 ⊢ <;> try (cases h4; done)
      · exact callD_mono h h4
      · exact h _ _ _ _ h4
  case makeFunc fn fs cs => cases fn <;> exact hc
  all_goals (simp only [stepOp] at hc ⊢; exact hc)
theorem stepX_mono (h : CallLe c c') {o : Op} {e : Env} {H : Heap} {r : R} (hc : stepX P A c o e H = some r) : stepX P A c' o e H = some r := by
  cases o
  case call k =>
    simp only [stepX] at hc ⊢
    cases hk : k.callee with
    | builtin b => simp only [hk] at hc ⊢; exact stepOp_mono h hc
    | invoke x y => simp only [hk] at hc ⊢; exact stepOp_mono h hc
    | value f =>
      cases f with
      | func f =>
        simp only [hk] at hc ⊢
        split at hc
        · rename_i hq
          rw [if_pos hq]
          obtain ⟨args, h1, h2⟩ := bind_some hc
          rw [h1]
          simp only [Option.bind_some]
          split at h2
          · rename_i hs; rw [if_pos hs]; exact stepOp_mono h h2
          · cases h2
        · rename_i hq; rw [if_neg hq]; exact stepOp_mono h hc
      | _ => simp only [hk] at hc ⊢; exact stepOp_mono h hc
  all_goals (simp only [stepX] at hc ⊢; exact stepOp_mono h hc)
theorem runOps_mono (h : CallLe c c') {ops : Array Oper} : ∀ {l : List Oper} {e : Env} {H : Heap} {s : St}, runOps P A c N ops l e H = some s → runOps P A c' N ops l e H = some s
  | [], e, H, s, hc => hc
  | o :: r, e, H, s, hc => by
    simp only [runOps] at hc ⊢
    by_cases hd : dstOk N o.dst = false
    · rw [if_pos hd] at hc; cases hc
    · rw [if_neg hd] at hc ⊢
      cases hw : wantD ops e o with
      | none => simp [hw] at hc
      | some b =>
        cases b with
        | false => simp only [hw] at hc ⊢; exact runOps_mono h hc
        | true =>
          simp only [hw] at hc ⊢
          cases hdc : deferC o.op with
          | some cc =>
            simp only [hdc] at hc ⊢
            cases hp : pushD P e cc with
            | none => simp [hp] at hc
            | some e' => simp only [hp] at hc ⊢; exact runOps_mono h hc
          | none =>
            simp only [hdc] at hc ⊢
            cases hs : stepOp P A c o.op e H with
            | none => simp [hs] at hc
            | some res =>
              rw [stepOp_mono h hs]
              rw [hs] at hc
              cases res with
              | ok d H1 => exact runOps_mono h hc
              | pan d H1 => exact hc
theorem runOpsX_mono (h : CallLe c c') {ops : Array Oper} : ∀ {l : List Oper} {e : Env} {H : Heap} {s : St}, runOpsX P A c N ops l e H = some s → runOpsX P A c' N ops l e H = some s
  | [], e, H, s, hc => hc
  | o :: r, e, H, s, hc => by
    simp only [runOpsX] at hc ⊢
    by_cases hd : dstOk N o.dst = false
    · rw [if_pos hd] at hc; cases hc
    · rw [if_neg hd] at hc ⊢
      cases hw : wantD ops e o with
      | none => simp [hw] at hc
      | some b =>
        cases b with
        | false => simp only [hw] at hc ⊢; exact runOpsX_mono h hc
        | true =>
          simp only [hw] at hc ⊢
          cases hs : stepX P A c o.op e H with
          | none => simp [hs] at hc
          | some res =>
            rw [stepX_mono h hs]
            rw [hs] at hc
            cases res with
            | ok d H1 => exact runOpsX_mono h hc
            | pan d H1 => cases hc
theorem iterC_mono {b b' : Env → Heap → Option St} (hb : ∀ e H s, b e H = some s → b' e H = some s) : ∀ {k k' : Nat} {e : Env} {H : Heap} {s : St}, k ≤ k' → iterC b k e H = some s → iterC b' k' e H = some s
  | 0, k', e, H, s, hk, hc => by simp [iterC] at hc
  | k + 1, 0, e, H, s, hk, hc => by omega
  | k + 1, k' + 1, e, H, s, hk, hc => by
    simp only [iterC] at hc ⊢
    cases hx : b e H with
    | none => simp [hx] at hc
    | some s1 =>
      rw [hb _ _ _ hx]
      rw [hx] at hc
      obtain ⟨ex, e1, H1⟩ := s1
      cases ex with
      | norm => exact iterC_mono hb (by omega) hc
      | _ => exact hc
theorem runC_mono (h : CallLe c c') {k k' : Nat} (hk : k ≤ k') : ∀ {cd : Code} {e : Env} {H : Heap} {s : St}, runC P A c k N cd e H = some s → runC P A c' k' N cd e H = some s
  | .skip, e, H, s, hc => hc
  | .label _, e, H, s, hc => hc
  | .region id ops draw, e, H, s, hc => by
    simp only [runC] at hc ⊢
    cases draw with
    | true =>
      simp only [if_true] at hc ⊢
      split at hc
      · rename_i hl; rw [if_pos hl]; exact runOpsX_mono h hc
      · cases hc
    | false => simp only [Bool.false_eq_true, if_false] at hc ⊢; exact runOps_mono h hc
  | .seq a b, e, H, s, hc => by
    simp only [runC] at hc ⊢
    cases hx : runC P A c k N a e H with
    | none => simp [hx] at hc
    | some s1 =>
      rw [runC_mono h hk hx]
      rw [hx] at hc
      obtain ⟨ex, e1, H1⟩ := s1
      cases ex with
      | norm => exact runC_mono h hk hc
      | _ => exact hc
  | .cond x a b, e, H, s, hc => by
    simp only [runC] at hc ⊢
    cases hx : evalO e x with
    | none => simp [hx] at hc
    | some d =>
      cases d <;> simp only [hx] at hc ⊢ <;> try (cases hc; done)
      rename_i bb
      cases bb
      · exact runC_mono h hk hc
      · exact runC_mono h hk hc
  | .block id b, e, H, s, hc => by
    simp only [runC] at hc ⊢
    cases hx : runC P A c k N b e H with
    | none => simp [hx] at hc
    | some s1 =>
      rw [runC_mono h hk hx]
      rw [hx] at hc
      exact hc
  | .loop b, e, H, s, hc => by
    simp only [runC] at hc ⊢
    exact iterC_mono (fun e H s hs => runC_mono h hk hs) hk hc
  | .rangeFunc g ps assign body, e, H, s, hc => by
    simp only [runC] at hc ⊢
    obtain ⟨l, h1, h2⟩ := bind_some hc
    obtain ⟨d, h3, h4⟩ := bind_some h2
    rw [h1, Option.bind_some, h3, Option.bind_some]
    cases d <;> simp only at h4 ⊢ <;> try (cases h4; done)
    rename_i f cs
    split at h4
    · cases h4
    · rename_i hb
      rw [if_neg hb]
      cases hcall : c f (.yld H.length :: cs) (H ++ [.loop ⟨.ready, none, e.f, N, ps, assign, body⟩]) with
      | none => simp [hcall] at h4
      | some r => rw [h _ _ _ _ hcall]; rw [hcall] at h4; exact h4
  | .exit _, e, H, s, hc => hc
  | .scope _, e, H, s, hc => by simp [runC] at hc
  | .goto _, e, H, s, hc => by simp [runC] at hc
  | .ret, e, H, s, hc => hc
  | .refuse _, e, H, s, hc => by simp [runC] at hc
theorem runS_mono {run run' : Code → Env → Heap → Option St} (hr : ∀ c e H s, run c e H = some s → run' c e H = some s) : ∀ {c : Code} {e : Env} {H : Heap} {m : Md} {x : St × Md}, runS P A N run c e H m = some x → runS P A N run' c e H m = some x := by
  have other : ∀ {c : Code} {e : Env} {H : Heap} {m : Md} {x : St × Md}, (run c e H).map (fun s => (s, m)) = some x → (run' c e H).map (fun s => (s, m)) = some x := by
    intro c e H m x h
    obtain ⟨s, h1, h2⟩ := map_some h
    rw [hr _ _ _ _ h1]; simpa using h2
  intro c
  induction c with
  | seq a b iha ihb =>
    intro e H m x h
    simp only [runS] at h ⊢
    obtain ⟨⟨⟨x1, e1, H1⟩, m1⟩, h1, h2⟩ := bind_some h
    rw [iha h1, Option.bind_some]
    cases x1 <;> simp only at h2 ⊢
    · exact ihb h2
    all_goals exact h2
  | cond o a b iha ihb =>
    intro e H m x h
    simp only [runS] at h ⊢
    cases ho : evalO e o with
    | none => simp [ho] at h
    | some d =>
      cases d <;> simp only [ho] at h ⊢ <;> try (cases h; done)
      rename_i bb
      cases bb
      · exact ihb h
      · exact iha h
  | region id ops draw =>
    intro e H m x h
    simp only [runS] at h ⊢
    split at h
    · rename_i hc; rw [if_pos hc]; exact h
    · rename_i hc; rw [if_neg hc]; exact other h
  | _ =>
    intro e H m x h
    simp only [runS] at h ⊢
    exact other h
theorem lastD_mono {run run' : Nat → Code → Env → Heap → Option St} (hr : ∀ N c e H s, run N c e H = some s → run' N c e H = some s) {f : FuncId} {args : List D} {m : Md} {H : Heap} {x : Md × Heap} (h : lastD P A run f args m H = some x) : lastD P A run' f args m H = some x := by
  unfold lastD at h ⊢
  cases hf : P.funcs[f]? with
  | none => simp [hf] at h
  | some fn =>
    simp only [hf] at h ⊢
    cases hb : fn.body with
    | none => simp [hb] at h
    | some c =>
      simp only [hb] at h ⊢
      split at h
      · cases h
      · rename_i hcond
        rw [if_neg hcond]
        obtain ⟨y, h1, h2⟩ := bind_some h
        rw [runS_mono (hr _) h1, Option.bind_some]
        exact h2
theorem leaveD_mono {run run' : Nat → Code → Env → Heap → Option St} (hr : ∀ N c e H s, run N c e H = some s → run' N c e H = some s) {rs : List ResultVar} {e : Env} : ∀ {l : List Dfr} {m : Md} {H : Heap} {r : R}, leaveD P A run rs e l m H = some r → leaveD P A run' rs e l m H = some r
  | [], m, H, r, h => by cases m <;> exact h
  | .mark :: l, m, H, r, h => by
    have h' : leaveD P A run rs e l m H = some r := by cases m <;> simpa only [leaveD] using h
    have := leaveD_mono hr h'
    cases m <;> simpa only [leaveD] using this
  | .call f args :: l, m, H, r, h => by
    have h' : (lastD P A run f args m H).bind (fun (m, H) => leaveD P A run rs e l m H) = some r := by cases m <;> simpa only [leaveD] using h
    obtain ⟨⟨m1, H1⟩, h1, h2⟩ := bind_some h'
    have : (lastD P A run' f args m H).bind (fun (m, H) => leaveD P A run' rs e l m H) = some r := by rw [lastD_mono hr h1, Option.bind_some]; exact leaveD_mono hr h2
    cases m <;> simpa only [leaveD] using this
theorem roundD_mono {run run' : Nat → Code → Env → Heap → Option St} (hr : ∀ N c e H s, run N c e H = some s → run' N c e H = some s) {r : Nat} {args : List D} {H : Heap} {x : R} (h : roundD run r args H = some x) : roundD run' r args H = some x := by
  unfold roundD at h ⊢
  obtain ⟨lp, h1, h2⟩ := bind_some h
  rw [h1, Option.bind_some]
  split at h2
  · rename_i hc
    rw [if_pos hc]
    obtain ⟨⟨x1, e1, H1⟩, h3, h4⟩ := bind_some h2
    rw [hr _ _ _ _ _ h3, Option.bind_some]
    cases x1 <;> simp only at h4 ⊢ <;> try (cases h4; done)
    obtain ⟨l1, h5, h6⟩ := bind_some h4
    rw [h5, Option.bind_some]
    split at h6
    · rename_i hq
      rw [if_pos hq]
      obtain ⟨s2, h7, h8⟩ := bind_some h6
      rw [hr _ _ _ _ _ h7, Option.bind_some]
      exact h8
    · cases h6
  · cases h2
theorem runF_succ : ∀ (k : Nat), CallLe (runF P A k) (runF P A (k + 1))
  | 0, f, args, H, r, h => by simp [runF] at h
  | k + 1, f, args, H, r, h => by
    rw [runF] at h ⊢
    cases hf : P.funcs[f]? with
    | none =>
      simp only [hf] at h ⊢
      exact roundD_mono (fun N c e H s hs => runC_mono (runF_succ k) (Nat.le_succ k) hs) h
    | some fn =>
      simp only [hf] at h ⊢
      cases hb : fn.body with
      | none => simp [hb] at h
      | some cd =>
        simp only [hb] at h ⊢
        split at h
        · cases h
        · rename_i hcond
          rw [if_neg hcond]
          cases hr : runC P A (runF P A k) k fn.ntmps cd (ofArgs args) H with
          | none => simp [hr] at h
          | some s =>
            rw [runC_mono (runF_succ k) (Nat.le_succ k) hr]
            rw [hr] at h
            obtain ⟨x, e1, H1⟩ := s
            cases x with
            | exit i => simp at h
            | norm =>
              simp only at h ⊢
              obtain ⟨l, h1, h2⟩ := bind_some h
              rw [h1, Option.bind_some]
              exact leaveD_mono (fun N c e H s hs => runC_mono (runF_succ k) (Nat.le_succ k) hs) h2
            | ret =>
              simp only at h ⊢
              obtain ⟨l, h1, h2⟩ := bind_some h
              rw [h1, Option.bind_some]
              exact leaveD_mono (fun N c e H s hs => runC_mono (runF_succ k) (Nat.le_succ k) hs) h2
            | pan d =>
              simp only at h ⊢
              obtain ⟨l, h1, h2⟩ := bind_some h
              rw [h1, Option.bind_some]
              exact leaveD_mono (fun N c e H s hs => runC_mono (runF_succ k) (Nat.le_succ k) hs) h2
theorem runF_le {k k' : Nat} (h : k ≤ k') : CallLe (runF P A k) (runF P A k') := by
  induction h with
  | refl => exact fun _ _ _ _ h => h
  | step _ ih => exact fun f args H r h => runF_succ _ f args H r (ih f args H r h)
end

/-! ### what a call comes to -/
section
variable (P : Program) (A : Ann)
/-- a call, as code makes it -/
def EvC (f : FuncId) (args : List D) (H : Heap) (K Kp : D → Heap → Prop) : Prop :=
  ∃ k r, callD P A (runF P A k) f args H = some r ∧ match r with
    | .ok d H' => K d H'
    | .pan d H' => Kp d H'
/-- a function's own run -/
def EvF (f : FuncId) (args : List D) (H : Heap) (K Kp : D → Heap → Prop) : Prop :=
  ∃ k r, runF P A k f args H = some r ∧ match r with
    | .ok d H' => K d H'
    | .pan d H' => Kp d H'
/-- one operation -/
def vOp (o : Op) (e : Env) (H : Heap) (K Kp : D → Heap → Prop) : Prop :=
  match o with
  | .call c => match c.callee with
    | .value f => match evalOs e c.args.toList, evalO e f with
      | some args, some (.fn g cs) => EvC P A g (args ++ cs) H K Kp
      | some args, some (.yld r) => EvF P A (P.funcs.size + r) args H K Kp
      | _, _ => False
    | _ => match stepOp P A noCall (.call c) e H with
      | some (.ok d H') => K d H'
      | some (.pan d H') => Kp d H'
      | none => False
  | o => match stepOp P A noCall o e H with
    | some (.ok d H') => K d H'
    | some (.pan d H') => Kp d H'
    | none => False
def vOps (N : Nat) (ops : Array Oper) : List Oper → Env → Heap → (Env → Heap → Prop) → (D → Env → Heap → Prop) → Prop
  | [], e, H, K, _ => K e H
  | o :: rest, e, H, K, Kp => dstOk N o.dst = true ∧ match wantD ops e o with
    | some true => match deferC o.op with
      | some c => match pushD P e c with
        | some e' => vOps N ops rest (putO e' o.dst ud) H K Kp
        | none => False
      | none => vOp P A o.op e H (fun d H' => vOps N ops rest (putO e o.dst d) H' K Kp) (fun d H' => Kp d e H')
    | some false => vOps N ops rest (putO e o.dst ud) H K Kp
    | none => False
/-- in a region whose order is open: a pure call has plain arguments -/
def vOpX (o : Op) (e : Env) (H : Heap) (K : D → Heap → Prop) : Prop :=
  match o with
  | .call c => match c.callee with
    | .value (.func f) => match evalOs e c.args.toList with
      | some args => ((A.prim f).isNone && A.mode f == .pure) = true → (stripL args).isSome = true ∧ True
      | none => False
    | _ => True
  | _ => True
def vOpsX (N : Nat) (ops : Array Oper) : List Oper → Env → Heap → (Env → Heap → Prop) → Prop
  | [], e, H, K => K e H
  | o :: rest, e, H, K => dstOk N o.dst = true ∧ match wantD ops e o with
    | some true => vOpX A o.op e H (fun _ _ => True) ∧ vOp P A o.op e H (fun d H' => vOpsX N ops rest (putO e o.dst d) H' K) (fun _ _ => False)
    | some false => vOpsX N ops rest (putO e o.dst ud) H K
    | none => False
/-- code -/
def WpC (N : Nat) (c : Code) (e : Env) (H : Heap) (Q : Ex → Env → Heap → Prop) : Prop :=
  ∃ k s, runC P A (runF P A k) k N c e H = some s ∧ Q s.ex s.e s.H
end

section
variable {P : Program} {A : Ann} {N : Nat}
theorem EvC.mono {f : FuncId} {args : List D} {H : Heap} {K Kp K' Kp' : D → Heap → Prop} (h : EvC P A f args H K Kp) (h1 : ∀ d H', K d H' → K' d H') (h2 : ∀ d H', Kp d H' → Kp' d H') : EvC P A f args H K' Kp' := by
  obtain ⟨k, r, hr, hq⟩ := h
  refine ⟨k, r, hr, ?_⟩
  cases r
  · exact h1 _ _ hq
  · exact h2 _ _ hq
theorem WpC.mono {c : Code} {e : Env} {H : Heap} {Q Q' : Ex → Env → Heap → Prop} (h : WpC P A N c e H Q) (hq : ∀ x e H, Q x e H → Q' x e H) : WpC P A N c e H Q' := by
  obtain ⟨k, s, hr, h1⟩ := h
  exact ⟨k, s, hr, hq _ _ _ h1⟩
theorem vOp_step {o : Op} {e : Env} {H : Heap} {K Kp : D → Heap → Prop} (h : vOp P A o e H K Kp) : ∃ k r, stepOp P A (runF P A k) o e H = some r ∧ match r with
    | .ok d H' => K d H'
    | .pan d H' => Kp d H' := by
  have gen : ∀ {x : Option R}, x = stepOp P A noCall o e H → (match x with | some (.ok d H') => K d H' | some (.pan d H') => Kp d H' | none => False) → ∃ k r, stepOp P A (runF P A k) o e H = some r ∧ match r with
      | .ok d H' => K d H'
      | .pan d H' => Kp d H' := by
    intro x hx hm
    cases x with
    | none => exact hm.elim
    | some r =>
      refine ⟨0, r, stepOp_mono (noCall_le _) hx.symm, ?_⟩
      cases r <;> exact hm
  unfold vOp at h
  split at h
  · rename_i c
    split at h
    · rename_i f hf
      split at h
      · rename_i args g cs ha hg
        obtain ⟨k, r, hr, hq⟩ := h
        refine ⟨k, r, ?_, hq⟩
        simp only [stepOp, ha, Option.bind_some, hf, hg]
        exact hr
      · rename_i args r0 ha hg
        obtain ⟨k, r, hr, hq⟩ := h
        refine ⟨k, r, ?_, hq⟩
        simp only [stepOp, ha, Option.bind_some, hf, hg]
        exact hr
      · exact h.elim
    · exact gen rfl h
  · exact gen rfl h
theorem vOps_run {ops : Array Oper} : ∀ {l : List Oper} {e : Env} {H : Heap} {K : Env → Heap → Prop} {Kp : D → Env → Heap → Prop}, vOps P A N ops l e H K Kp →
    ∃ k s, runOps P A (runF P A k) N ops l e H = some s ∧ ((s.ex = .norm ∧ K s.e s.H) ∨ ∃ d, s.ex = .pan d ∧ Kp d s.e s.H)
  | [], e, H, K, Kp, h => ⟨0, ⟨.norm, e, H⟩, rfl, .inl ⟨rfl, h⟩⟩
  | o :: r, e, H, K, Kp, h => by
    obtain ⟨hd, h⟩ := h
    have hd' : ¬ dstOk N o.dst = false := by simp [hd]
    cases hw : wantD ops e o with
    | none => simp [hw] at h
    | some b =>
      cases b with
      | false =>
        simp only [hw] at h
        obtain ⟨k, s, h1, h2⟩ := vOps_run h
        exact ⟨k, s, by simp only [runOps, if_neg hd', hw]; exact h1, h2⟩
      | true =>
        simp only [hw] at h
        cases hdc : deferC o.op with
        | some c =>
          simp only [hdc] at h
          cases hp : pushD P e c with
          | none => simp [hp] at h
          | some e' =>
            simp only [hp] at h
            obtain ⟨k, s, h1, h2⟩ := vOps_run h
            exact ⟨k, s, by simp only [runOps, if_neg hd', hw, hdc, hp]; exact h1, h2⟩
        | none =>
          simp only [hdc] at h
          obtain ⟨k, res, h1, h2⟩ := vOp_step h
          cases res with
          | ok d H' =>
            obtain ⟨k2, s, h3, h4⟩ := vOps_run h2
            refine ⟨max k k2, s, ?_, h4⟩
            simp only [runOps, if_neg hd', hw, hdc, stepOp_mono (runF_le (Nat.le_max_left k k2)) h1]
            exact runOps_mono (runF_le (Nat.le_max_right k k2)) h3
          | pan d H' =>
            refine ⟨k, ⟨.pan d, e, H'⟩, ?_, .inr ⟨d, rfl, h2⟩⟩
            simp only [runOps, if_neg hd', hw, hdc, h1]
theorem stepX_of {o : Op} {e : Env} {H : Heap} {k : Nat} {r : R} (hx : vOpX A o e H (fun _ _ => True)) (h : stepOp P A (runF P A k) o e H = some r) : stepX P A (runF P A k) o e H = some r := by
  cases o
  case call c =>
    simp only [stepX]
    simp only [vOpX] at hx
    cases hk : c.callee with
    | builtin b => simp only; exact h
    | invoke x y => simp only; exact h
    | value f =>
      cases f with
      | func f =>
        simp only [hk] at hx ⊢
        split
        · rename_i hq
          cases ha : evalOs e c.args.toList with
          | none => simp [ha] at hx
          | some args =>
            simp only [ha] at hx
            simp only [Option.bind_some]
            rw [if_pos (hx hq).1]
            exact h
        · exact h
      | _ => simp only; exact h
  all_goals (simp only [stepX]; exact h)
theorem vOpsX_run {ops : Array Oper} : ∀ {l : List Oper} {e : Env} {H : Heap} {K : Env → Heap → Prop}, vOpsX P A N ops l e H K →
    ∃ k s, runOpsX P A (runF P A k) N ops l e H = some s ∧ s.ex = .norm ∧ K s.e s.H
  | [], e, H, K, h => ⟨0, ⟨.norm, e, H⟩, rfl, rfl, h⟩
  | o :: r, e, H, K, h => by
    obtain ⟨hd, h⟩ := h
    have hd' : ¬ dstOk N o.dst = false := by simp [hd]
    cases hw : wantD ops e o with
    | none => simp [hw] at h
    | some b =>
      cases b with
      | false =>
        simp only [hw] at h
        obtain ⟨k, s, h1, h2⟩ := vOpsX_run h
        exact ⟨k, s, by simp only [runOpsX, if_neg hd', hw]; exact h1, h2⟩
      | true =>
        simp only [hw] at h
        obtain ⟨k, res, h1, h2⟩ := vOp_step h.2
        cases res with
        | ok d H' =>
          obtain ⟨k2, s, h3, h4⟩ := vOpsX_run h2
          refine ⟨max k k2, s, ?_, h4⟩
          simp only [runOpsX, if_neg hd', hw, stepX_mono (runF_le (Nat.le_max_left k k2)) (stepX_of h.1 h1)]
          exact runOpsX_mono (runF_le (Nat.le_max_right k k2)) h3
        | pan d H' => exact h2.elim
end
end Vm
