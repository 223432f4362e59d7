/- Regions whose order is open: every order leaves the same. -/
import Derived.Test.YtcppjlmicdfceaaZzW7
import Derived.Test.YtcppjlmicdfceaaZzX2
set_option linter.unusedVariables false
set_option linter.unusedSimpArgs false
namespace Vm
open Go Go.RowKit

section
variable {P : Program} {A : Ann} {call : CallF} {N : Nat} {ops : Array Oper}

theorem purL_strip {k : Nat} : ∀ {l l' : List D} {H : Heap}, stripL l = some l' → purL (pur (k + 1)) H l = some (l', H)
  | [], l', H, h => by simp [stripL] at h; subst h; rfl
  | d :: r, l', H, h => by
    obtain ⟨d', r', h0, h1, rfl⟩ := stripL_cons h
    have hp : pur (k + 1) H d = some (d', H) := by simp only [pur, h0]
    have ih := purL_strip (k := k) (H := H) h1
    simp only [purL, hp, Option.bind_some, ih, Option.map_some]
theorem pures_strip {l l' : List D} {H : Heap} (h : stripL l = some l') : pures H l = some (l', H) := purL_strip h

theorem stepX_stepOp {o : Op} {e : Env} {H : Heap} {r : R} (h : stepX P A call o e H = some r) : stepOp P A call o e H = some r := by
  unfold stepX at h
  split at h
  · rename_i c
    split at h
    · split at h
      · obtain ⟨args, h1, h2⟩ := bind_some h
        split at h2
        · exact h2
        · cases h2
      · exact h
    · exact h
  · exact h
/-- a quiet operation leaves the heap -/
theorem quiet_same {o : Op} {e : Env} {H H' : Heap} {d : D} (hq : quietO A o = true) (h : stepX P A call o e H = some (.ok d H')) : H' = H := by
  cases o <;> simp only [quietO] at hq <;> try (cases hq; done)
  case call c =>
    unfold stepX at h
    cases hc : c.callee with
    | invoke x y => simp [hc] at hq
    | builtin b =>
      simp only [hc] at h hq
      simp only [stepOp, hc] at h
      obtain ⟨args, h1, h2⟩ := bind_some h
      obtain ⟨d', H1, h3, h4⟩ := okH_some h2
      cases h4
      unfold builtinD at h3
      split at h3
      · obtain ⟨m, _, h5⟩ := map_some h3; cases h5; rfl
      · simp at hq
      · obtain ⟨m, _, h5⟩ := map_some h3; cases h5; rfl
      · obtain ⟨m, _, h5⟩ := map_some h3; cases h5; rfl
      · cases h3
    | value f =>
      cases f with
      | func f =>
        simp only [hc] at h hq
        rw [if_pos hq] at h
        simp only [Bool.and_eq_true, beq_iff_eq, Option.isNone_iff_eq_none] at hq
        obtain ⟨args, h1, h2⟩ := bind_some h
        split at h2
        · rename_i hs
          obtain ⟨as, has⟩ := Option.isSome_iff_exists.1 hs
          simp only [stepOp, h1, hc, evalO, Option.bind_some, List.append_nil] at h2
          unfold callD at h2
          split at h2
          · cases h2
          · simp only [hq.1, hq.2] at h2
            rw [pures_strip has] at h2
            simp only [Option.bind_some] at h2
            obtain ⟨r, h3, h4⟩ := bind_some h2
            cases r with
            | pan _ _ => cases h4
            | ok d' Hc =>
              simp only at h4
              rw [if_neg (by decide)] at h4
              obtain ⟨d2, h5, h6⟩ := map_some h4
              cases h6
              simp
        · cases h2
      | _ => simp [hc] at hq
  all_goals simp only [stepX, stepOp] at h
  case makeFunc fn fs cs =>
    cases fn <;> simp only at h <;> try (cases h; done)
    split at h
    · obtain ⟨l, h1, h2⟩ := map_some h; cases h2; rfl
    · cases h
  case makeInterface t x =>
    obtain ⟨p, h1, h2⟩ := bind_some h
    split at h2
    · cases h2
    · cases h2; rfl
    · cases h2
  case convert s t x =>
    obtain ⟨p, h1, h2⟩ := bind_some h
    obtain ⟨d', H1, h3, h4⟩ := okH_some h2
    cases h4
    unfold convD at h3
    split at h3
    · cases h3; rfl
    · cases h3; rfl
    · cases h3
  case nilCheck x =>
    obtain ⟨p, h1, h2⟩ := bind_some h
    cases p <;> simp only at h2 <;> cases h2 <;> rfl
  case pick c x y =>
    obtain ⟨p, h1, h2⟩ := bind_some h
    cases p <;> simp only at h2 <;> try (cases h2; done)
    obtain ⟨_, _, h4⟩ := okD_some h2; cases h4; rfl
  case field t x f =>
    obtain ⟨p, h1, h2⟩ := bind_some h
    cases p <;> simp only at h2 <;> try (cases h2; done)
    obtain ⟨_, _, h3⟩ := bind_some h2
    obtain ⟨_, _, h4⟩ := okD_some h3; cases h4; rfl
  case extract x i =>
    obtain ⟨p, h1, h2⟩ := bind_some h
    cases p <;> simp only at h2 <;> try (cases h2; done)
    obtain ⟨_, _, h4⟩ := okD_some h2; cases h4; rfl
  all_goals first
    | (obtain ⟨_, _, h4⟩ := okD_some h; cases h4; rfl)
    | (obtain ⟨_, _, h1⟩ := bind_some h; obtain ⟨_, _, h4⟩ := okD_some h1; cases h4; rfl)
    | (obtain ⟨_, _, h1⟩ := bind_some h; obtain ⟨_, _, h2⟩ := bind_some h1; obtain ⟨_, _, h4⟩ := okD_some h2; cases h4; rfl)
    | (obtain ⟨_, _, h1⟩ := bind_some h; obtain ⟨_, _, h2⟩ := bind_some h1; obtain ⟨_, _, h3⟩ := bind_some h2; obtain ⟨_, _, h4⟩ := okD_some h3; cases h4; rfl)
    | (obtain ⟨_, _, h1⟩ := bind_some h; obtain ⟨_, _, h2⟩ := bind_some h1; obtain ⟨_, _, h3⟩ := bind_some h2; obtain ⟨_, _, h5⟩ := bind_some h3; obtain ⟨_, _, h4⟩ := okD_some h5; cases h4; rfl)

/-- an operation looks at its operands alone -/
theorem evalO_congr {e e' : Env} {x : Operand} (h : ∀ t, x = .tmp t → e t = e' t) : evalO e x = evalO e' x := by
  cases x <;> simp only [evalO]
  exact congrArg some (h _ rfl)
theorem evalOs_congr {e e' : Env} : ∀ {l : List Operand}, (∀ t, Operand.tmp t ∈ l → e t = e' t) → evalOs e l = evalOs e' l
  | [], _ => rfl
  | x :: r, h => by
    simp only [evalOs]
    rw [evalO_congr (fun t ht => h t (by simp [ht])), evalOs_congr (fun t ht => h t (by simp [ht]))]
theorem evalOo_congr {e e' : Env} {x : Option Operand} (h : ∀ t, x = some (.tmp t) → e t = e' t) : evalOo e x = evalOo e' x := by
  cases x with
  | none => rfl
  | some x => simp only [evalOo]; rw [evalO_congr (fun t ht => h t (by rw [ht]))]
theorem partsD_congr {e e' : Env} : ∀ {l : List (Nat × Operand)}, (∀ t, Operand.tmp t ∈ l.map (·.2) → e t = e' t) → partsD e l = partsD e' l
  | [], _ => rfl
  | (i, x) :: r, h => by
    simp only [partsD]
    rw [evalO_congr (fun t ht => h t (by simp [ht])), partsD_congr (fun t ht => h t (by simp at ht ⊢; exact .inr ht))]
theorem stepOp_congr {o : Op} {e e' : Env} {H : Heap} (h : ∀ t, Operand.tmp t ∈ o.operands.toList → e t = e' t) : stepOp P A call o e H = stepOp P A call o e' H := by
  cases o <;> simp only [Op.operands] at h <;> simp only [stepOp] <;> first | rfl | skip
  case build t ps => rw [partsD_congr (e' := e') (fun t ht => h t (by simpa using ht))]
  case buildSlice t n ps => rw [partsD_congr (e' := e') (fun t ht => h t (by simpa using ht))]
  case makeFunc fn fs cs =>
    cases fn <;> simp only
    rw [evalOs_congr (e' := e') (fun t ht => h t (by simp; right; simpa using ht))]
  case slice t x lo hi mx =>
    rw [evalO_congr (e' := e') (x := x) (fun t ht => h t (by simp [ht])), evalOo_congr (e' := e') (x := lo) (fun t ht => h t (by simp [ht])), evalOo_congr (e' := e') (x := hi) (fun t ht => h t (by simp [ht])), evalOo_congr (e' := e') (x := mx) (fun t ht => h t (by simp [ht]))]
  case call c =>
    rw [evalOs_congr (e' := e') (fun t ht => h t (by simp [Call.operands] at ht ⊢; exact .inr ht))]
    cases hc : c.callee with
    | builtin b => rfl
    | invoke x y => rfl
    | value f => simp only; rw [evalO_congr (e' := e') (x := f) (fun t ht => h t (by simp [Call.operands, hc, ht]))]
  case pick c x y =>
    rw [evalO_congr (e' := e') (x := c) (fun t ht => h t (by simp [ht])), evalO_congr (e' := e') (x := x) (fun t ht => h t (by simp [ht])), evalO_congr (e' := e') (x := y) (fun t ht => h t (by simp [ht]))]
  case load t x => rw [evalO_congr (e' := e') (x := x) (fun t ht => h t (by simp [ht]))]
  case box t x => rw [evalO_congr (e' := e') (x := x) (fun t ht => h t (by simp [ht]))]
  case move x => rw [evalO_congr (e' := e') (x := x) (fun t ht => h t (by simp [ht]))]
  case assign x => rw [evalO_congr (e' := e') (x := x) (fun t ht => h t (by simp [ht]))]
  case nilCheck x => rw [evalO_congr (e' := e') (x := x) (fun t ht => h t (by simp [ht]))]
  case unOp o t x => rw [evalO_congr (e' := e') (x := x) (fun t ht => h t (by simp [ht]))]
  case convert s t x => rw [evalO_congr (e' := e') (x := x) (fun t ht => h t (by simp [ht]))]
  case makeInterface t x => rw [evalO_congr (e' := e') (x := x) (fun t ht => h t (by simp [ht]))]
  case fieldAddr t x f => rw [evalO_congr (e' := e') (x := x) (fun t ht => h t (by simp [ht]))]
  case field t x f => rw [evalO_congr (e' := e') (x := x) (fun t ht => h t (by simp [ht]))]
  case extract x i => rw [evalO_congr (e' := e') (x := x) (fun t ht => h t (by simp [ht]))]
  case typeAssert x xt t ok => rw [evalO_congr (e' := e') (x := x) (fun t ht => h t (by simp [ht]))]
  case panic x => rw [evalO_congr (e' := e') (x := x) (fun t ht => h t (by simp [ht]))]
  case store t x y => rw [evalO_congr (e' := e') (x := x) (fun t ht => h t (by simp [ht])), evalO_congr (e' := e') (x := y) (fun t ht => h t (by simp [ht]))]
  case binOp o t x y yt => rw [evalO_congr (e' := e') (x := x) (fun t ht => h t (by simp [ht])), evalO_congr (e' := e') (x := y) (fun t ht => h t (by simp [ht]))]
  case makeSlice t x y => rw [evalO_congr (e' := e') (x := x) (fun t ht => h t (by simp [ht])), evalO_congr (e' := e') (x := y) (fun t ht => h t (by simp [ht]))]
  case indexAddr t x y => rw [evalO_congr (e' := e') (x := x) (fun t ht => h t (by simp [ht])), evalO_congr (e' := e') (x := y) (fun t ht => h t (by simp [ht]))]
  case index t x y => rw [evalO_congr (e' := e') (x := x) (fun t ht => h t (by simp [ht])), evalO_congr (e' := e') (x := y) (fun t ht => h t (by simp [ht]))]
theorem stepX_congr {o : Op} {e e' : Env} {H : Heap} (h : ∀ t, Operand.tmp t ∈ o.operands.toList → e t = e' t) : stepX P A call o e H = stepX P A call o e' H := by
  have h0 := stepOp_congr (P := P) (A := A) (call := call) (H := H) h
  cases o <;> simp only [stepX] <;> first | exact h0 | skip
  rename_i c
  have h1 : evalOs e c.args.toList = evalOs e' c.args.toList := evalOs_congr (fun t ht => h t (by simp [Op.operands, Call.operands] at ht ⊢; exact .inr ht))
  rw [h0, h1]
end
end Vm
