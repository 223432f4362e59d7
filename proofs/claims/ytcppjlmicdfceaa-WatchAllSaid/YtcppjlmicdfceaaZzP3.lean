/- Rules for ranges over functions and their rounds; plain facts on data. -/
import Derived.Test.YtcppjlmicdfceaaZzP2
import Derived.Laws.BitsLemmas
set_option linter.unusedVariables false
set_option linter.unusedSimpArgs false
namespace Vm
open Go

section
variable {P : Program} {A : Ann} {N : Nat} {e : Env} {H : Heap} {Q : Ex → Env → Heap → Prop}
/-- what holds behind the function that is ranged over -/
def RangeQ (e : Env) (l : List Dfr) (r : Nat) (Q : Ex → Env → Heap → Prop) (H2 : Heap) : Prop :=
  ∃ lp, hget H2 r = .loop lp ∧ lp.st ≠ .busy ∧ ((lp.pend = none ∧ Q .norm ⟨e.f, some (.mark :: l)⟩ (H2.set r .dead)) ∨ (lp.pend = some .ret ∧ Q .ret ⟨e.f, some (.mark :: l)⟩ (H2.set r .dead)) ∨
    ∃ id, lp.pend = some (.exit id) ∧ Q (.exit id) ⟨e.f, some (.mark :: l)⟩ (H2.set r .dead))
theorem wpc_range {g : Operand} {ps : Array Tmp} {assign body : Code} {l : List Dfr} {f : FuncId} {cs : List D} (hd : e.df = some l) (hg : evalO e g = some (.fn f cs)) (hb : bodied P f = true) (hl : l.all callQ = true)
    (h : EvF P A f (.yld H.length :: cs) (H ++ [.loop ⟨.ready, none, e.f, N, ps, assign, body⟩]) (fun _ H2 => RangeQ e l H.length Q H2) (fun _ _ => False)) : WpC P A N (.rangeFunc g ps assign body) e H Q := by
  obtain ⟨k, r, h1, h2⟩ := h
  cases r with
  | pan d H2 => exact h2.elim
  | ok d H2 =>
    obtain ⟨lp, g1, g2, g3⟩ := h2
    have hc : ¬ (bodied P f = false ∨ l.all callQ = false) := by simp [hb, hl]
    have key : ∀ {s : St}, (match lp.pend with | none => some ⟨.norm, ⟨e.f, some (.mark :: l)⟩, H2.set H.length .dead⟩ | some c => jumpD c ⟨e.f, some (.mark :: l)⟩ (H2.set H.length .dead)) = some s → Q s.ex s.e s.H → WpC P A N (.rangeFunc g ps assign body) e H Q := by
      intro s hs hq
      refine ⟨k, s, ?_, hq⟩
      simp only [runC, hd, Option.bind_some, hg, if_neg hc, h1, g1, if_neg g2]
      exact hs
    rcases g3 with ⟨g4, g5⟩ | ⟨g4, g5⟩ | ⟨id, g4, g5⟩
    · exact key (s := ⟨.norm, _, _⟩) (by rw [g4]) g5
    · exact key (s := ⟨.ret, _, _⟩) (by rw [g4]; rfl) g5
    · exact key (s := ⟨.exit id, _, _⟩) (by rw [g4]; rfl) g5
/-- what holds behind a round's body -/
def RoundQ (r : Nat) (K : D → Heap → Prop) (x : Ex) (e : Env) (H : Heap) : Prop :=
  ∃ j lp, leftD x = some j ∧ hget H r = .loop lp ∧ K (.bool j.isNone) (H.set r (.loop { lp with st := if j.isNone then .ready else .done, pend := j }))
def BeginQ (P : Program) (A : Ann) (r N : Nat) (body : Code) (K : D → Heap → Prop) (x : Ex) (e : Env) (H : Heap) : Prop :=
  x = .norm ∧ ∃ lp, hget H r = .loop lp ∧ lp.st = .ready ∧ WpC P A N body e (H.set r (.loop { lp with st := .busy })) (RoundQ r K)
theorem evF_round {r : Nat} {args : List D} {lp : Lp} {K Kp : D → Heap → Prop} (hg : hget H r = .loop lp) (hr : lp.st = .ready) (ha : args.length = lp.ps.size) (hp : (lp.ps.toList.all fun t => decide (t < lp.N)) = true)
    (h : WpC P A lp.N lp.assign ⟨putsD lp.tmps (lp.ps.toList.zip args), none⟩ H (BeginQ P A r lp.N lp.body K)) : EvF P A (P.funcs.size + r) args H K Kp := by
  obtain ⟨k, s, h1, h2, l1, h3, h4, k2, s2, h5, j, l2, h6, h7, h8⟩ := h
  obtain ⟨x, e1, H1⟩ := s
  simp only at h2 h3 h4 h5
  subst h2
  refine ⟨max k k2 + 1, .ok (.bool j.isNone) (s2.H.set r (.loop { l2 with st := if j.isNone then .ready else .done, pend := j })), ?_, h8⟩
  have r1 := runRun_mono (Nat.le_max_left k k2) _ _ _ _ _ h1
  have r2 := runRun_mono (Nat.le_max_right k k2) _ _ _ _ _ h5
  have hn : P.funcs[P.funcs.size + r]? = none := Array.getElem?_eq_none (by omega)
  have e3 : P.funcs.size + r - P.funcs.size = r := by omega
  simp only [runF, hn, e3, roundD, hg, lpOf, Option.bind_some, hr, ha, hp, and_self, if_true, r1, h3, h4, r2, h6, h7]
end

section
variable {P : Program} {A : Ann} {N : Nat} {e : Env} {H : Heap} {Q : Ex → Env → Heap → Prop}
theorem wpc_mid {a b : Code} (I : Env → Heap → Prop) (h : WpC P A N a e H (SeqQ I Q)) (k : ∀ e H, I e H → WpC P A N b e H Q) : WpC P A N (.seq a b) e H Q :=
  wpc_seq (h.mono fun x e H hx => by cases x <;> first | exact k _ _ hx | exact hx)
end

/-! ### plain data -/
theorem tmod_pos {a b : Int} (h : 0 ≤ a) : a.tmod b = a % b := Int.tmod_eq_emod_of_nonneg h
theorem tmod_neg {a b : Int} (h : a < 0) : a.tmod b = -((-a) % b) := by
  have : a.tmod b = -((-a).tmod b) := by rw [Int.neg_tmod, Int.neg_neg]
  rw [this, tmod_pos (by omega)]

theorem outPure_strip {H : Heap} {d d' : D} (h : strip d = some d') : outPure H d = some d' := by
  simp [outPure, deepest, pur, h]
theorem outPure_int {H : Heap} {k : IntKind} {n : Int} : outPure H (.int k n) = some (.int k n) := outPure_strip rfl
theorem outPure_bool {H : Heap} {b : Bool} : outPure H (.bool b) = some (.bool b) := outPure_strip rfl
theorem outPure_str {H : Heap} {s : List UInt8} : outPure H (.str s) = some (.str s) := outPure_strip rfl
theorem oneD_one {d : D} : oneD [d] = d := rfl
theorem df_put {e : Env} {i : Nat} {v : D} : (put e i v).df = e.df := rfl
theorem wi64 {n : Int} (h0 : -9223372036854775808 ≤ n) (h1 : n < 9223372036854775808) : IntKind.i64.wrap n = n := by
  rw [IntKind.wrap_i64]; omega
def natOf : D → Nat
  | .int _ n => n.toNat
  | _ => 0
theorem natOf_int {k : IntKind} {n : Int} : natOf (.int k n) = n.toNat := rfl
theorem evF_pan_false {P : Program} {A : Ann} {f : FuncId} {args : List D} {H : Heap} {K Kp : D → Heap → Prop} (h : EvF P A f args H K (fun _ _ => False)) : EvF P A f args H K Kp := h.mono (fun _ _ h => h) (fun _ _ h => h.elim)
end Vm
