/- A call that the interpreter makes is the model's call: deferred calls, rounds and all. -/
import Derived.Test.YtcppjlmicdfceaaZzW9
set_option linter.unusedVariables false
set_option linter.unusedSimpArgs false
namespace Vm
open Go Go.RowKit

section
variable {P : Program} {A : Ann} {ρ : Rho} {im : Im} {H : Heap} {w : World} {n N : Nat} {a : Act} {e : Env}

theorem runS_ok (hA : PrimOk P A) {run : Code → Env → Heap → Option St} (hrun : ∀ c, CodeOk P N (run c) c) {n0 : Nat} {c₀ : Frame} {cs : List Frame} : ∀ (c : Code) {ρ : Rho} {im : Im} {H : Heap} {w : World} {a : Act} {e : Env} {m : Md} {u : FrameMode} {s : St} {m' : Md},
    Rel ρ im H w → EnvR ρ H.length im N a e → DfR ρ n0 im H w none a.defers e.df → MdR ρ H.length im u m → runS P A N run c e H m = some (s, m') →
    c.wpSIn (FW none) n P (AfterS ρ im H w N n0 c₀ cs s m') a ({ c₀ with mode := u } :: cs) w := by
  have other : ∀ (c : Code) {ρ : Rho} {im : Im} {H : Heap} {w : World} {a : Act} {e : Env} {m : Md} {u : FrameMode} {s : St} {m' : Md},
      Rel ρ im H w → EnvR ρ H.length im N a e → DfR ρ n0 im H w none a.defers e.df → MdR ρ H.length im u m → (run c e H).map (fun s => (s, m)) = some (s, m') →
      c.wpSIn (FW none) n P (AfterS ρ im H w N n0 c₀ cs s m') a ({ c₀ with mode := u } :: cs) w := by
    intro c ρ im H w a e m u s m' hR he hd hm h
    obtain ⟨s1, h1, h2⟩ := map_some h
    simp at h2
    obtain ⟨rfl, rfl⟩ := h2
    refine wpSIn_of_wpIn rfl (wpIn_mono (hrun c _ _ _ _ _ _ _ n0 none n hR he hd h1) fun x a' w' haf => ?_)
    obtain ⟨ρ', im', g1, g2, g3, g4⟩ := haf.ex
    exact ⟨ρ', im', u, rfl, g1, g2, g3, hm.mv g1, g4⟩
  intro c
  induction c with
  | seq x y ihx ihy =>
    intro ρ im H w a e m u s m' hR he hd hm h
    simp only [runS] at h
    obtain ⟨⟨⟨x1, e1, H1⟩, m1⟩, h1, h2⟩ := bind_some h
    have hx := ihx hR he hd hm h1
    refine wpSIn_seq ?_
    have mono : ∀ {c : Code} {Q Q' : Exit → Act → List Frame → World → Prop} {a : Act} {cs : List Frame} {w : World}, c.wpSIn (FW none) n P Q a cs w → (∀ x a' cs' w', Q x a' cs' w' → Q' x a' cs' w') → c.wpSIn (FW none) n P Q' a cs w := fun h k b kk h1 h2 h3 h4 =>
      let ⟨e, a', cs', w', l, q, r⟩ := h b kk h1 h2 h3 h4; ⟨e, a', cs', w', l, k _ _ _ _ q, r⟩
    refine mono hx fun x a1 cs1 w1 haf => ?_
    obtain ⟨ρ1, im1, u1, rfl, g1, g2, g3, g4, v1, hx1, hp1⟩ := haf.ex
    cases x1 with
    | norm =>
      simp only [exOf] at hx1
      subst hx1
      simp only at h2
      simp only [Exit.thenS]
      exact mono (ihy g1.rel g2 g3 g4 h2) fun x a' cs' w' haf2 => haf2.mv g1
    | exit i =>
      simp only [exOf] at hx1; subst hx1
      simp at h2; obtain ⟨rfl, rfl⟩ := h2
      exact haf
    | ret =>
      simp only [exOf] at hx1; subst hx1
      simp at h2; obtain ⟨rfl, rfl⟩ := h2
      exact haf
    | pan d =>
      simp only [exOf] at hx1; subst hx1
      simp at h2; obtain ⟨rfl, rfl⟩ := h2
      exact haf
  | cond c x y ihx ihy =>
    intro ρ im H w a e m u s m' hR he hd hm h
    simp only [runS] at h
    cases hc : evalO e c with
    | none => simp [hc] at h
    | some d =>
      have hv := evalO_rep he hc
      cases d <;> simp [hc] at h
      rename_i b
      have := hv.bool_inv
      cases b
      · exact wpSIn_cond this (ihy hR he hd hm h)
      · exact wpSIn_cond this (ihx hR he hd hm h)
  | region id ops draw =>
    intro ρ im H w a e m u s m' hR he hd hm h
    simp only [runS] at h
    split at h
    · rename_i hq
      obtain ⟨hdr, _⟩ := hq
      subst hdr
      obtain ⟨⟨e', H', m1⟩, h1, h2⟩ := map_some h
      simp at h2
      obtain ⟨rfl, rfl⟩ := h2
      refine wpSIn_region ?_
      have := runOpsS_ok hA (n := n) (c₀ := c₀) (cs := cs) (Q := AfterS ρ im H w N n0 c₀ cs ⟨.norm, e', H'⟩ m1) ops.toList 0 (fun j => by simp) hR he hd hm h1 (fun x a' cs' w' haf => haf)
      rw [List.range_eq_range']
      simpa using this
    · exact other _ hR he hd hm h
  | _ =>
    intro ρ im H w a e m u s m' hR he hd hm h
    exact other _ hR he hd hm (by simpa only [runS] using h)

theorem lastD_ok (hA : PrimOk P A) {run : Nat → Code → Env → Heap → Option St} (hrun : ∀ N c, CodeOk P N (run N c) c) {f : FuncId} {args : List D} {m m' : Md} {H' : Heap} {vs : List Value} {u : FrameMode} (h : lastD P A run f args m H = some (m', H'))
    (hR : Rel ρ im H w) (hargs : RepA ρ H.length im vs args) (hm : MdR ρ H.length im u m) :
    bodied P f = true ∧ CallsDIn (FW none) n P f ⟨vs⟩ u w fun en u' w' => ∃ v ρ' im', en = .returned v ∧ Mv ρ im H w ρ' im' H' w' ∧ MdR ρ' H'.length im' (Go.settle u') m' := by
  unfold lastD at h
  cases hf : P.funcs[f]? with
  | none => simp [hf] at h
  | some fn =>
    simp only [hf] at h
    cases hb : fn.body with
    | none => simp [hb] at h
    | some c =>
      simp only [hb] at h
      split at h
      · cases h
      · rename_i hcond
        simp only [Bool.or_eq_true, decide_eq_true_eq, not_or, Nat.not_lt] at hcond
        refine ⟨by simp [bodied, hf, hb]; simpa using hcond.1, ?_⟩
        obtain ⟨⟨s, m1⟩, h1, h2⟩ := bind_some h
        have he := env_enter hargs hcond.2
        refine callsDIn_of_wpSIn hf hb trivial fun c₀ cs hu => ?_
        have hd : DfR ρ w.heap.size im H w none [] (ofArgs args).df := ⟨Nat.le_refl _, fun l hl => ⟨rfl, by simp [ofArgs] at hl; subst hl; exact .nil⟩⟩
        have hc₀ : ({ c₀ with mode := u } : Frame) = c₀ := by subst hu; rfl
        have hs := runS_ok (n := n) hA (hrun fn.ntmps) (c₀ := c₀) (cs := cs) c hR he hd hm h1
        rw [hc₀] at hs
        intro b kk g1 g2 g3 g4
        obtain ⟨x, a', cs', w', hl, haf, harr⟩ := hs b kk g1 g2 g3 g4
        refine ⟨x, a', cs', w', hl, ?_, harr⟩
        obtain ⟨ρ1, im1, u1, rfl, k1, k2, k3, k4, v1, hx1, hp1⟩ := haf.ex
        obtain ⟨x1, e1, H1⟩ := s
        have fin : ∀ {x1 : Ex}, (if noDf e1.df = true ∧ (resD P e1 H1 fn.results.toList).isSome = true then some (m1.settle, H1) else none) = some (m', H') →
            a'.defers = [] ∧ ∃ u', ({ c₀ with mode := u1 } : Frame) :: cs = { c₀ with mode := u' } :: cs ∧ ∃ v, (results fn a'.tmps).run P w' = .ok v w' ∧ ∃ v' ρ' im', Ending.returned v = .returned v' ∧ Mv ρ im H w ρ' im' H' w' ∧ MdR ρ' H'.length im' (Go.settle u') m' := by
          intro x1 h2
          split at h2
          · rename_i hcc
            simp at h2
            obtain ⟨rfl, rfl⟩ := h2
            obtain ⟨hdf, hres⟩ := hcc
            have hnil : e1.df = some [] := by
              cases hq : e1.df with
              | none => simp [hq, noDf] at hdf
              | some l => cases l with
                | nil => rfl
                | cons _ _ => simp [hq, noDf] at hdf
            have hdl := (k3.r [] hnil).2
            have hdn : a'.defers = [] := by
              generalize a'.defers = ds at hdl
              cases hdl; rfl
            cases hrs : resD P e1 H1 fn.results.toList with
            | none => simp [hrs] at hres
            | some l =>
              obtain ⟨v', g1, g2⟩ := results_run k1.rel k2 hrs
              exact ⟨hdn, u1, rfl, v', g1, v', ρ1, im1, rfl, k1, k4.settle⟩
          · cases h2
        cases x1 with
        | norm => simp only [exOf] at hx1; subst hx1; exact fin (x1 := .norm) h2
        | ret => simp only [exOf] at hx1; subst hx1; exact fin (x1 := .ret) h2
        | exit i => simp at h2
        | pan d => simp at h2

theorem Mv.shut {ρ1 : Rho} {im1 : Im} {H1 : Heap} {w1 : World} {b : Nat} {ds : Option (List Deferred)} (m : Mv ρ im H w ρ1 im1 H1 w1) (hb : w.heap.size ≤ b) (ho : w1.heap[b]? = some (.deferred ds)) (hu : unowned ρ1 H1 b) (o : Obj) : Mv ρ im H w ρ1 im1 H1 (w1.putObj b o) := by
  have hother : ∀ b', b' ≠ b → (w1.putObj b o).heap[b']? = w1.heap[b']? := fun b' hb' => putObj_other hb'
  refine ⟨⟨fun b' o' v hv => ?_, fun r hr => ?_, m.rel.sep, m.rel.own⟩, m.le, ⟨m.tr.os, m.tr.tape, m.tr.output, by simpa using m.tr.size, m.tr.len, m.tr.ext, fun b' hb' hn => ?_, m.tr.own⟩, m.nu⟩
  · have hne : b' ≠ b := fun e => by
      subst e
      have := m.rel.imc _ _ _ hv
      simp [World.cell?, ho] at this
    rw [cell?_congr (hother b' hne)]
    exact m.rel.imc _ _ _ hv
  · exact (m.rel.obj r hr).mono (fun _ _ => rfl) (Nat.le_refl _) (ImLe.refl _) (fun hl => hother _ (hu r hr hl))
  · rw [hother b' (by omega)]
    exact m.tr.keep b' hb' hn
theorem DfL.world {n0 : Nat} {w w' : World} : ∀ {ds : List Deferred} {l : List Dfr}, DfL ρ n0 im H w ds l → l.all callQ = true → DfL ρ n0 im H w' ds l
  | _, _, .nil, _ => .nil
  | _, _, .call g vs us ds l l' h hr, hq => .call g vs us ds l l' h (DfL.world hr (by simpa [callQ] using hq))
  | _, _, .mark b l l' hb ho hu hm hr, hq => by simp [callQ] at hq

theorem leave_ok (hA : PrimOk P A) {run : Nat → Code → Env → Heap → Option St} (hrun : ∀ N c, CodeOk P N (run N c) c) {fn : Func} {r : R} : ∀ (l : List Dfr) {m : Md} {H1 : Heap} {ρ1 : Rho} {im1 : Im} {w1 : World} {ds : List Deferred} {u : FrameMode},
    Mv ρ im H w ρ1 im1 H1 w1 → EnvR ρ1 H1.length im1 N a e → DfL ρ1 w.heap.size im1 H1 w1 ds l → MdR ρ1 H1.length im1 u m → leaveD P A run fn.results.toList e l m H1 = some r →
    LeavesInM (FW none) n P fn a.tmps (OutR ρ im H w r) ds u w1
  | [], m, H1, ρ1, im1, w1, ds, u, k, he, hd, hm, h => by
    cases hd
    cases hm with
    | ret =>
      simp only [leaveD] at h
      obtain ⟨l, h1, rfl⟩ := map_some h
      obtain ⟨v', g1, g2⟩ := results_run k.rel he h1
      exact ⟨v', g1, .ok ρ1 im1 H1 w1 v' _ k g2⟩
    | pan v d hv =>
      simp only [leaveD] at h
      simp at h; subst h
      exact .pan ρ1 im1 H1 w1 v d k hv
    | rcv v d hv => simp [leaveD] at h
  | .mark :: l, m, H1, ρ1, im1, w1, ds, u, k, he, hd, hm, h => by
    cases hd with
    | mark b ds _ hb ho hu hq hr =>
      have h : leaveD P A run fn.results.toList e l m H1 = some r := by cases m <;> simpa only [leaveD] using h
      exact ⟨hm.run, .inl ⟨b, _, rfl, run_takeDeferred ho, leave_ok hA hrun l (k.shut hb ho hu _) he (hr.world hq) hm h⟩⟩
  | .call g args :: l, m, H1, ρ1, im1, w1, ds, u, k, he, hd, hm, h => by
    cases hd with
    | call _ vs us _ ds _ hargs hr =>
      have h : (lastD P A run g args m H1).bind (fun (m, H) => leaveD P A run fn.results.toList e l m H) = some r := by cases m <;> simpa only [leaveD] using h
      obtain ⟨⟨m2, H2⟩, h1, h2⟩ := bind_some h
      obtain ⟨hb, hcd⟩ := lastD_ok (n := n - 1) hA hrun h1 k.rel hargs hm
      refine ⟨hm.run, .inr ⟨fw_depth, .func g, ⟨us⟩, g, ⟨vs ++ us⟩, rfl, ?_, fun _ _ => trivial, hcd.mono fun en u' w' hp => ?_⟩⟩
      · simp only [invoke]
        have : (⟨vs⟩ : Array Value) ++ ⟨us⟩ = ⟨vs ++ us⟩ := by apply Array.ext'; simp
        rw [this, callFunc_run hb]
      · obtain ⟨v, ρ2, im2, rfl, k2, hm2⟩ := hp
        exact leave_ok hA hrun l (k.trans k2) (k2.env he) (hr.mv k2) hm2 h2

theorem runF_ok (hmo : P.follows .mixedOrders = true) (hA : PrimOk P A) : ∀ k, CallOk P (runF P A k)
  | 0 => fun f args H r h => by simp [runF] at h
  | k + 1 => fun f args H r h ρ im w vs hR hargs => by
    have ih := runF_ok hmo hA k
    have hrun : ∀ N c, CodeOk P N (runC P A (runF P A k) k N c) c := fun N c => runC_ok hmo hA ih k c
    simp only [runF] at h
    unfold CallR
    cases hf : P.funcs[f]? with
    | none =>
      simp only [hf] at h
      exact roundD_ok hrun h hR hargs
    | some fn =>
      simp only [hf] at h
      cases hb : fn.body with
      | none => simp [hb] at h
      | some c =>
        simp only [hb] at h
        split at h
        · cases h
        · rename_i hcond
          simp only [Bool.or_eq_true, decide_eq_true_eq, not_or, Nat.not_lt] at hcond
          have he := env_enter hargs hcond.2
          have hd : DfR ρ w.heap.size im H w none [] (ofArgs args).df := ⟨Nat.le_refl _, fun l hl => ⟨rfl, by simp [ofArgs] at hl; subst hl; exact .nil⟩⟩
          have hin : CallsIn (FW none) 0 P f ⟨vs⟩ w (OutR ρ im H w r) := by
            refine callsIn_of_wp_marks hf hb trivial ?_ rfl
            cases hrc : runC P A (runF P A k) k fn.ntmps c (ofArgs args) H with
            | none => simp [hrc] at h
            | some s =>
              refine wpIn_mono (hrun fn.ntmps c _ _ _ _ _ _ _ w.heap.size none 0 hR he hd hrc) fun x a' w' haf => ?_
              obtain ⟨ρ', im', hm, he', hd', v, hx, hp⟩ := haf.ex
              obtain ⟨ex, e', H'⟩ := s
              simp only [hrc] at h
              cases ex with
              | norm =>
                simp only at h
                obtain ⟨l, h1, h2⟩ := bind_some h
                simp only [exOf] at hx
                subst hx
                exact leave_ok hA hrun l hm he' (hd'.r l h1).2 .ret h2
              | ret =>
                simp only at h
                obtain ⟨l, h1, h2⟩ := bind_some h
                simp only [exOf] at hx
                subst hx
                exact leave_ok hA hrun l hm he' (hd'.r l h1).2 .ret h2
              | pan d =>
                simp only at h
                obtain ⟨l, h1, h2⟩ := bind_some h
                simp only [exOf] at hx
                subst hx
                exact leave_ok hA hrun l hm he' (hd'.r l h1).2 (.pan v d (hp d rfl)) h2
              | exit i => simp at h
          exact callsIn_wide.1 hin
end
end Vm
