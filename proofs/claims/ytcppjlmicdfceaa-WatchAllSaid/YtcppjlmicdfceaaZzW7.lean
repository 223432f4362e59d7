/- Every operation of the interpreter is the model's. -/
import Derived.Test.YtcppjlmicdfceaaZzW6
set_option linter.unusedVariables false
set_option linter.unusedSimpArgs false
namespace Vm
open Go Go.RowKit

theorem bind_some {α β : Type} {x : Option α} {f : α → Option β} {b : β} (h : x.bind f = some b) : ∃ a, x = some a ∧ f a = some b := by
  cases x with
  | none => cases h
  | some a => exact ⟨a, rfl, h⟩
theorem map_some {α β : Type} {x : Option α} {f : α → β} {b : β} (h : x.map f = some b) : ∃ a, x = some a ∧ f a = b := by
  cases x with
  | none => cases h
  | some a => exact ⟨a, rfl, by simpa using h⟩
theorem okD_some {H : Heap} {x : Option D} {r : R} (h : okD H x = some r) : ∃ d, x = some d ∧ r = .ok d H := by
  obtain ⟨d, h1, h2⟩ := map_some h; exact ⟨d, h1, h2.symm⟩
theorem okH_some {x : Option (D × Heap)} {r : R} (h : okH x = some r) : ∃ d H, x = some (d, H) ∧ r = .ok d H := by
  obtain ⟨⟨d, H⟩, h1, h2⟩ := map_some h; exact ⟨d, H, h1, h2.symm⟩
theorem okU_some {x : Option Heap} {r : R} (h : okU x = some r) : ∃ H, x = some H ∧ r = .ok ud H := by
  obtain ⟨H, h1, h2⟩ := map_some h; exact ⟨H, h1, h2.symm⟩

section
variable {P : Program} {ρ : Rho} {im : Im} {H : Heap} {w w' : World} {n N : Nat} {a : Act} {e : Env} {A : Ann} {call : CallF} {r : R}

theorem convD_run {s t : TypeId} {x d : D} {vx : Value} {H' : Heap} (hx : Rep ρ n im vx x) (h : convD P s t x H = some (d, H')) : H' = H ∧ ∃ v, (convert s t vx).run P w = .ok v w ∧ Rep ρ n im v d := by
  unfold convD at h
  split at h
  · rename_i k1 k k2 m h1 h2
    simp at h; obtain ⟨rfl, rfl⟩ := h
    cases hx
    exact ⟨rfl, _, by simp [convert, run_underlying h1, run_underlying h2, Conv.intToInt], .int _ _⟩
  · rename_i s' h1 h2
    simp at h; obtain ⟨rfl, rfl⟩ := h
    refine ⟨rfl, _, ?_, hx⟩
    cases hx
    simp [convert, run_underlying h1, run_underlying h2]
  · cases h

def assertC (P : Program) (x : D) (u : TypeId) (ok : Bool) : Option D :=
  match x with
  | .iface t v => if t = u then some (if ok then .tup [v, .bool true] else v) else if ok then (zeroT P u).map fun z => .tup [z, .bool false] else none
  | .nili => if ok then (zeroT P u).map fun z => .tup [z, .bool false] else none
  | _ => none
theorem assertD_run {x d : D} {vx : Value} {u xt : TypeId} {ok : Bool} (hx : Rep ρ n im vx x) (h : assertD P x u ok = some d) : ∃ v, (Instr.typeAssert vx xt u ok).run P w = .ok v w ∧ Rep ρ n im v d := by
  unfold assertD at h
  cases hu : P.underlying u with
  | none => simp [hu] at h
  | some td =>
    have zero : ∀ {d : D}, (zeroT P u).map (fun z => D.tup [z, .bool false]) = some d → ∃ z, (zeroValue u).run P w = .ok z w ∧ Rep ρ n im (.tuple #[z, .bool false]) d := fun h => by
      obtain ⟨z, h1, rfl⟩ := map_some h
      obtain ⟨zv, g1, g2, _⟩ := run_zero h1 w
      exact ⟨zv, g1, .tup [zv, .bool false] [z, .bool false] (.cons _ _ _ _ (ofV_rep g2) (.cons _ _ _ _ (.bool false) .nil))⟩
    have main : assertC P x u ok = some d ∧ (∀ ms, td ≠ .interface ms) := by
      clear hx zero
      cases td <;> simp only [hu] at h <;> first | (cases h; done) | exact ⟨h, fun ms e => by cases e⟩
    obtain ⟨k, hni⟩ := main
    clear h
    unfold Instr.typeAssert
    cases hx with
    | iface t v d' hv =>
      simp only [assertC] at k
      by_cases ht : t = u
      · rw [if_pos ht] at k
        subst ht
        simp at k
        refine ⟨if ok then .tuple #[v, .bool true] else v, ?_, ?_⟩
        · simp only [Sem.run_bind, run_underlying hu, Result.andThen_ok]
          cases td <;> first | (exact (hni _ rfl).elim) | simp
        · cases ok
          · simp at k; subst k; simpa using hv
          · simp at k; subst k
            exact .tup [v, .bool true] [d', .bool true] (.cons _ _ _ _ hv (.cons _ _ _ _ (.bool true) .nil))
      · rw [if_neg ht] at k
        cases ok with
        | false => simp at k
        | true =>
          simp only [if_true] at k
          obtain ⟨z, g1, g2⟩ := zero k
          refine ⟨_, ?_, g2⟩
          simp only [Sem.run_bind, run_underlying hu, Result.andThen_ok]
          cases td <;> first | (exact (hni _ rfl).elim) | simp [ht, g1]
    | nili =>
      simp only [assertC] at k
      cases ok with
      | false => simp at k
      | true =>
        simp only [if_true] at k
        obtain ⟨z, g1, g2⟩ := zero k
        refine ⟨_, ?_, g2⟩
        simp only [Sem.run_bind, run_underlying hu, Result.andThen_ok]
        cases td <;> first | (exact (hni _ rfl).elim) | simp [g1]
    | _ => simp [assertC] at k
theorem callsIn_fw {ro : Option Nat} {n : Nat} {f : FuncId} {args : Array Value} {w : World} {R : Ending → World → Prop} (h : Calls P f args w R) : CallsIn (FW ro) n P f args w R :=
  have h' : CallsIn Fence.wide n P f args w R := callsIn_wide.2 h
  h'
theorem resolve_yield {ρe : Operand → Value} {c : Call} {ty : TypeId} {f : Operand} (hc : c.callee = .value f) {l : Nat} (hf : ρe f = .func (.yield l) #[] #[]) :
    (resolve ρe c ty).run P w = .ok { target := .fn (.yield l) #[], args := c.args.map ρe } w := by
  unfold resolve
  rw [hc]
  simp [hf, Deferred.ofValue]
theorem stepOp_ok (hA : PrimOk P A) (hcall : CallOk P call) {o : Oper} (hR : Rel ρ im H w) (he : EnvR ρ H.length im N a e) (h : stepOp P A call o.op e H = some r) : OpOk P ρ im H w a o r := by
  obtain ⟨dst, op, ty, pos, after, guard⟩ := o
  have same : ∀ {v : Value} {d : D}, (execOp a.eval ⟨dst, op, ty, pos, after, guard⟩).run P w = .ok (.value v) w → Rep ρ H.length im v d → OpOk P ρ im H w a ⟨dst, op, ty, pos, after, guard⟩ (.ok d H) := fun h1 h2 => opOk_same hR h1 h2
  cases op <;> simp only [stepOp] at h <;> try (cases h; done)
  case move x => obtain ⟨d, h1, rfl⟩ := okD_some h; exact same (by simp [execOp]) (evalO_rep he h1)
  case assign x => obtain ⟨d, h1, rfl⟩ := okD_some h; exact same (by simp [execOp]) (evalO_rep he h1)
  case pick c x y =>
    obtain ⟨dc, h1, h2⟩ := bind_some h
    have hc := evalO_rep he h1
    cases dc <;> simp only at h2 <;> try (cases h2; done)
    rename_i b
    obtain ⟨d, h3, rfl⟩ := okD_some h2
    have hc' := hc.bool_inv
    cases b
    · exact same (v := a.eval y) (by simp [execOp, hc', asBool]) (evalO_rep he (by simpa using h3))
    · exact same (v := a.eval x) (by simp [execOp, hc', asBool]) (evalO_rep he (by simpa using h3))
  case alloc t =>
    obtain ⟨z, h1, h2⟩ := map_some h
    subst h2
    obtain ⟨zv, hzr, hzo, hnt⟩ := run_zero h1 w
    obtain ⟨ρ', w1, g1, g2, g3⟩ := box_run (P := P) hR (ofV_rep hzo) hnt t
    exact opOk_value (v := .pointer (some ⟨w.heap.size, 0, none⟩)) (by simp [execOp, Instr.alloc, hzr, g1]) g2 g3
  case box t x =>
    obtain ⟨d, h1, h2⟩ := bind_some h
    split at h2
    · rename_i hn
      simp at h2; subst h2
      obtain ⟨ρ', w1, g1, g2, g3⟩ := box_run (P := P) hR (evalO_rep he h1) (fun l e => by subst e; simp [noTup] at hn) t
      exact opOk_value (v := .pointer (some ⟨w.heap.size, 0, none⟩)) (by simp [execOp, Instr.box, g1]) g2 g3
    · cases h2
  case build t ps =>
    obtain ⟨l, h1, h2⟩ := bind_some h
    obtain ⟨d, h3, rfl⟩ := okD_some h2
    obtain ⟨v, g1, g2⟩ := build_run (P := P) (w := w) (partsD_rep he h1) h3
    refine same ?_ g2
    have e1 : (ps.map fun (i, x) => (i, a.eval x)) = ⟨ps.toList.map fun (i, x) => (i, a.eval x)⟩ := by apply Array.ext'; simp
    simp only [execOp, e1]
    simp [g1]
  case buildSlice t m ps =>
    obtain ⟨l, h1, h2⟩ := bind_some h
    obtain ⟨d, H', h3, rfl⟩ := okH_some h2
    obtain ⟨v, ρ', w1, g1, g2, g3⟩ := buildSlice_run (P := P) hR (partsD_rep he h1) h3
    refine opOk_value ?_ g2 g3
    have e1 : (ps.map fun (i, x) => (i, a.eval x)) = ⟨ps.toList.map fun (i, x) => (i, a.eval x)⟩ := by apply Array.ext'; simp
    simp only [execOp, e1]
    simp [g1]
  case load t x =>
    obtain ⟨p, h1, h2⟩ := bind_some h
    obtain ⟨d, h3, rfl⟩ := okD_some h2
    obtain ⟨v, g1, g2⟩ := loadD_run (P := P) hR (evalO_rep he h1) h3
    exact same (by simp [execOp, g1]) g2
  case store t x y =>
    obtain ⟨p, h1, h2⟩ := bind_some h
    obtain ⟨v, h3, h4⟩ := bind_some h2
    obtain ⟨H', h5, rfl⟩ := okU_some h4
    obtain ⟨w1, g1, g2, g3⟩ := storeD_run (P := P) hR (evalO_rep he h1) (evalO_rep he h3) h5
    exact opOk_skip (by simp [execOp, g1]) ⟨g2, ImLe.refl _, g3, fun _ _ _ h => .inl h⟩
  case nilCheck x =>
    obtain ⟨p, h1, h2⟩ := bind_some h
    have hp := evalO_rep he h1
    cases p <;> simp only at h2 <;> try (cases h2; done)
    · simp at h2; subst h2
      generalize hv : a.eval x = v at hp
      cases hp with
      | ptr _ _ _ hr => exact same (by simp only [execOp, hv]; rfl) (.ptr _ _ _ hr)
    · simp at h2; subst h2
      generalize hv : a.eval x = v at hp
      cases hp with
      | ept b o _ _ vs hc hl => exact same (by simp only [execOp, hv]; rfl) (.ept b o _ _ vs hc hl)
    · simp at h2; subst h2
      generalize hv : a.eval x = v at hp
      cases hp with
      | fn _ vs _ hl => exact same (by simp only [execOp, hv]; rfl) (.fn _ vs _ hl)
  case binOp op t x y yt =>
    obtain ⟨p, h1, h2⟩ := bind_some h
    obtain ⟨q, h3, h4⟩ := bind_some h2
    obtain ⟨d, h5, rfl⟩ := okD_some h4
    obtain ⟨v, g1, g2⟩ := binD_run (P := P) (w := w) h5 (evalO_rep he h1) (evalO_rep he h3) x y
    refine same ?_ g2
    simp only [execOp, Sem.run_bind] at g1 ⊢
    rw [g1]; rfl
  case unOp op t x =>
    obtain ⟨p, h1, h2⟩ := bind_some h
    obtain ⟨d, h5, rfl⟩ := okD_some h2
    obtain ⟨v, g1, g2⟩ := unD_run (P := P) (w := w) h5 (evalO_rep he h1)
    exact same (by simp [execOp, g1]) g2
  case convert s t x =>
    obtain ⟨p, h1, h2⟩ := bind_some h
    obtain ⟨d, H', h5, rfl⟩ := okH_some h2
    obtain ⟨rfl, v, g1, g2⟩ := convD_run (P := P) (w := w) (evalO_rep he h1) h5
    exact same (by simp [execOp, g1]) g2
  case makeInterface t x =>
    obtain ⟨p, h1, h2⟩ := bind_some h
    have hp := evalO_rep he h1
    split at h2
    · cases h2
    · rename_i td hni hu
      simp at h2; subst h2
      refine same ?_ (.iface t _ _ hp)
      have : (Instr.makeInterface t (a.eval x)).run P w = .ok (.iface t (a.eval x)) w := by
        cases td <;> first | (exact (hni _ rfl).elim) | (simp [Instr.makeInterface, run_underlying hu])
      simp [execOp, this]
    · cases h2
  case makeFunc fn fs cs =>
    cases fn <;> simp only at h <;> try (cases h; done)
    rename_i f
    split at h
    · rename_i hfs
      obtain ⟨l, h1, h2⟩ := map_some h
      subst h2
      have hl := evalOs_rep he h1
      have e1 : fs = #[] := by simpa using hfs
      subst e1
      refine same ?_ (.fn f _ _ hl)
      have e2 : cs.map a.eval = ⟨cs.toList.map a.eval⟩ := by apply Array.ext'; simp
      simp [execOp, Instr.makeFunc, e2]
    · cases h
  case makeSlice t l c =>
    obtain ⟨dl, h1, h2⟩ := bind_some h
    obtain ⟨dc, h3, h4⟩ := bind_some h2
    obtain ⟨d, H', h5, rfl⟩ := okH_some h4
    obtain ⟨v, ρ', w1, g1, g2, g3⟩ := makeSlice_run (P := P) hR (evalO_rep he h1) (evalO_rep he h3) h5
    exact opOk_value (by simp [execOp, g1]) g2 g3
  case slice t x lo hi mx =>
    obtain ⟨dx, h1, h2⟩ := bind_some h
    obtain ⟨dlo, h3, h4⟩ := bind_some h2
    obtain ⟨dhi, h5, h6⟩ := bind_some h4
    obtain ⟨dmx, h7, h8⟩ := bind_some h6
    obtain ⟨d, h9, rfl⟩ := okD_some h8
    obtain ⟨v, g1, g2⟩ := slice_run (P := P) hR h9 (evalO_rep he h1) (evalOo_rep he h3) (evalOo_rep he h5) (evalOo_rep he h7)
    exact same (by simp [execOp, g1]) g2
  case fieldAddr t x f =>
    obtain ⟨p, h1, h2⟩ := bind_some h
    obtain ⟨⟨o, u⟩, h3, h4⟩ := bind_some h2
    obtain ⟨z, h5, h6⟩ := bind_some h4
    obtain ⟨d, h7, rfl⟩ := okD_some h6
    obtain ⟨v, g1, g2⟩ := fieldAt_run (P := P) (w := w) h3 h5 h7 (evalO_rep he h1)
    exact same (by simp [execOp, g1]) g2
  case field t x f =>
    obtain ⟨p, h1, h2⟩ := bind_some h
    have hp := evalO_rep he h1
    cases p <;> simp only at h2 <;> try (cases h2; done)
    obtain ⟨⟨o, u⟩, h3, h4⟩ := bind_some h2
    obtain ⟨d, h7, rfl⟩ := okD_some h4
    generalize hv : a.eval x = v at hp
    cases hp with
    | agg vs cs hl =>
      obtain ⟨v, g1, g2⟩ := field_run (P := P) (w := w) h3 h7 hl
      exact same (by simp [execOp, hv, g1]) g2
  case indexAddr t x i =>
    obtain ⟨dx, h1, h2⟩ := bind_some h
    obtain ⟨di, h3, h4⟩ := bind_some h2
    obtain ⟨d, h7, rfl⟩ := okD_some h4
    obtain ⟨v, g1, g2⟩ := indexAddr_run (P := P) hR h7 (evalO_rep he h1) (evalO_rep he h3)
    exact same (by simp [execOp, g1]) g2
  case index t x i =>
    obtain ⟨dx, h1, h2⟩ := bind_some h
    obtain ⟨di, h3, h4⟩ := bind_some h2
    obtain ⟨d, h7, rfl⟩ := okD_some h4
    obtain ⟨v, g1, g2⟩ := index_run (P := P) (w := w) h7 (evalO_rep he h1) (evalO_rep he h3)
    exact same (by simp [execOp, g1]) g2
  case extract x i =>
    obtain ⟨p, h1, h2⟩ := bind_some h
    have hp := evalO_rep he h1
    cases p <;> simp only at h2 <;> try (cases h2; done)
    obtain ⟨d, h7, rfl⟩ := okD_some h2
    generalize hv : a.eval x = v at hp
    cases hp with
    | tup vs cs hl =>
      obtain ⟨u, g1, g2⟩ := hl.get h7
      exact same (by simp [execOp, hv, Instr.extract, g1]) g2
  case typeAssert x xt t ok =>
    obtain ⟨d0, h1, h2⟩ := bind_some h
    obtain ⟨d, h3, rfl⟩ := okD_some h2
    obtain ⟨v, g1, g2⟩ := assertD_run (P := P) (w := w) (xt := xt) (evalO_rep he h1) h3
    exact same (by simp [execOp, g1]) g2
  case call c =>
    obtain ⟨args, h1, h2⟩ := bind_some h
    have hargs := evalOs_rep he h1
    have e2 : c.args.map a.eval = ⟨c.args.toList.map a.eval⟩ := by apply Array.ext'; simp
    cases hc : c.callee with
    | builtin b =>
      simp only [hc] at h2
      obtain ⟨d, H', h3, rfl⟩ := okH_some h2
      obtain ⟨v, ρ', im', w1, g1, g2, g3⟩ := builtin_ok (ty := ty) (consts := c.args.map fun | .const _ => true | _ => false) hR hargs h3
      refine opOk_value ?_ g2 g3
      simp only [execOp, resolve, hc, Sem.run_bind, Sem.run_pure, Result.andThen_ok, invoke, e2]
      exact g1
    | invoke x y => simp [hc] at h2
    | value f =>
      simp only [hc] at h2
      obtain ⟨df, h3, h4⟩ := bind_some h2
      have hf := evalO_rep he h3
      cases df <;> simp only at h4 <;> try (cases h4; done)
      · rename_i g cs
        generalize hv : a.eval f = v at hf
        cases hf with
        | fn _ vs _ hl =>
          have hall := hargs.append hl
          obtain ⟨hb, hcalls⟩ := callD_ok hA hcall hR hall h4
          intro ro n K Q hK hQ
          have hrun : (execOp a.eval ⟨dst, .call c, ty, pos, after, guard⟩).run P w = .ok (.enter g ⟨c.args.toList.map a.eval ++ vs⟩) w := by
            simp only [execOp, Sem.run_bind, resolve_run (P := P) (w := w) hc hv, Result.andThen_ok, invoke, e2]
            have : (⟨c.args.toList.map a.eval⟩ : Array Value) ++ ⟨vs⟩ = ⟨c.args.toList.map a.eval ++ vs⟩ := by apply Array.ext'; simp
            rw [this, callFunc_run hb]
          refine wpIn_run hrun (fun d h => by cases h) ⟨fw_depth, callsIn_fw (hcalls.mono fun en w2 hout => ?_)⟩
          cases hout with
          | ok ρ' im' H' _ v d hm hv => exact hK v w2 (.ok ρ' im' H' w2 v d hm hv)
          | pan ρ' im' H' _ v d hm hv => exact hQ _ w2 (.pan ρ' im' H' w2 v d hm hv)
      · rename_i g
        generalize hv : a.eval f = v at hf
        cases hf with
        | yld g hg =>
          have hcalls := hcall _ _ _ _ h4 ρ im w _ hR hargs
          unfold CallR at hcalls
          rw [Array.getElem?_eq_none (by omega)] at hcalls
          have e3 : P.funcs.size + g - P.funcs.size = g := by omega
          simp only [e3] at hcalls
          obtain ⟨fn, tmps, assign, body, hy, hround⟩ := hcalls
          intro ro n K Q hK hQ
          have hrun : (execOp a.eval ⟨dst, .call c, ty, pos, after, guard⟩).run P w = .ok (.round (ρ g).b fn tmps assign body) w := by
            simp only [execOp, Sem.run_bind, resolve_yield (P := P) (w := w) hc hv, Result.andThen_ok, invoke, e2]
            exact hy
          refine wpIn_run hrun (fun d h => by cases h) ⟨fw_depth, (hround ro (n - 1)).mono fun en w2 hout => ?_⟩
          cases hout with
          | ok ρ' im' H' _ v d hm hv => exact hK v w2 (.ok ρ' im' H' w2 v d hm hv)
          | pan ρ' im' H' _ v d hm hv => exact hQ _ w2 (.pan ρ' im' H' w2 v d hm hv)
  case panic x =>
    obtain ⟨p, h1, h2⟩ := bind_some h
    have hp := evalO_rep he h1
    cases p <;> simp only at h2 <;> try (cases h2; done)
    rename_i tt dd
    simp at h2; subst h2
    generalize hv : a.eval x = v at hp
    cases hp with
    | iface _ v _ hvd =>
      intro ro n K Q hK hQ
      have hrun : (execOp a.eval ⟨dst, .panic x, ty, pos, after, guard⟩).run P w = .halt (.panic (.iface tt v)) w := by
        simp only [execOp, hv, Instr.panic]; rfl
      refine ⟨fun f _ => trivial, ?_⟩
      rw [Oper.semAt_eq _ _ _ (fun c h => by cases h), hrun]
      exact hQ _ w (.pan ρ im H w _ _ (Mv.refl hR) (.iface _ v _ hvd))
end
end Vm
