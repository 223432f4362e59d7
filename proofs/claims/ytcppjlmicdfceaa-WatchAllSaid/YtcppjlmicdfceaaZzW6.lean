/- Calls, as the interpreter has them, in the model; and so each operation. -/
import Derived.Test.YtcppjlmicdfceaaZzW5
set_option linter.unusedVariables false
set_option linter.unusedSimpArgs false
namespace Vm
open Go Go.RowKit

/-- a call of a function, or of a round -/
def CallR (P : Program) (ρ : Rho) (f : FuncId) (vs : List Value) (w : World) (R : Ending → World → Prop) : Prop :=
  match P.funcs[f]? with
  | some _ => Calls P f ⟨vs⟩ w R
  | none => ∃ fn tmps assign body, (Instr.yield (ρ (f - P.funcs.size)).b ⟨vs⟩).run P w = .ok (.round (ρ (f - P.funcs.size)).b fn tmps assign body) w ∧
      ∀ ro n, RoundIn (FW ro) n P (ρ (f - P.funcs.size)).b fn tmps assign body w R
theorem CallR.calls {P : Program} {ρ : Rho} {f : FuncId} {vs : List Value} {w : World} {R : Ending → World → Prop} (h : CallR P ρ f vs w R) (hb : bodied P f = true) : Calls P f ⟨vs⟩ w R := by
  unfold CallR at h
  unfold bodied at hb
  cases hf : P.funcs[f]? with
  | none => simp [hf] at hb
  | some fn => simpa [hf] using h
/-- what is asked of the calls -/
def CallOk (P : Program) (call : CallF) : Prop :=
  ∀ (f : FuncId) (args : List D) (H : Heap) (r : R), call f args H = some r → ∀ (ρ : Rho) (im : Im) (w : World) (vs : List Value), Rel ρ im H w → RepA ρ H.length im vs args → CallR P ρ f vs w (OutR ρ im H w r)
/-- and of the functions that are taken as they are -/
def PrimOk (P : Program) (A : Ann) : Prop :=
  ∀ (f : FuncId) (p : List D → Heap → Option R), A.prim f = some p → ∀ (args : List D) (H : Heap) (r : R), p args H = some r → ∀ (ρ : Rho) (im : Im) (w : World) (vs : List Value), Rel ρ im H w → RepA ρ H.length im vs args → Calls P f ⟨vs⟩ w (OutR ρ im H w r)
section
variable {P : Program} {ρ : Rho} {im : Im} {H : Heap} {w w' : World} {n N : Nat} {a : Act} {e : Env}

theorem Rel.empty (h : Rel ρ im H w) (ρ0 : Rho) : Rel ρ0 im [] w :=
  ⟨h.imc, fun r hr => by simp at hr, fun r s hr => by simp at hr, fun r hr => by simp at hr⟩
mutual
theorem Rep.plain {ρ' : Rho} {m : Nat} : ∀ {v : Value} {d d' : D}, Rep ρ n im v d → Vm.strip d = some d' → Rep ρ' m im v d
  | _, _, _, .bool b, h => .bool b
  | _, _, _, .int k m, h => .int k m
  | _, _, _, .str s, h => .str s
  | _, _, _, .nilp, h => .nilp
  | _, _, _, .ptr r i j hr, h => by simp [Vm.strip] at h
  | _, _, _, .ept b o x j vs hc hl, h => by simp [Vm.strip] at h
  | _, _, _, .sl0 a cap f hf, h => .sl0 a cap f hf
  | _, _, _, .sl b o sz cap f xs vs hs hc hl hf hcap, h => by
    simp only [Vm.strip] at h
    cases hx : stripL xs with
    | none => simp [hx] at h
    | some l => exact .sl b o sz cap f xs vs hs hc (RepL.plain hl (stripL_flat hx)) hf hcap
  | _, _, _, .vec r o m hr hm, h => by simp [Vm.strip] at h
  | _, _, _, .map r hr, h => by simp [Vm.strip] at h
  | _, _, _, .nilm, h => .nilm
  | _, _, _, .fn f vs cs hl, h => by simp [Vm.strip] at h
  | _, _, _, .niln, h => .niln
  | _, _, _, .iface t v d hv, h => by simp [Vm.strip] at h
  | _, _, _, .nili, h => .nili
  | _, _, _, .agg vs cs hl, h => by
    simp only [Vm.strip] at h
    cases hx : stripL cs with
    | none => simp [hx] at h
    | some l => exact .agg vs cs (RepL.plain hl hx)
  | _, _, _, .tup vs cs hl, h => by
    simp only [Vm.strip] at h
    cases hx : stripL cs with
    | none => simp [hx] at h
    | some l => exact .tup vs cs (RepA.plain hl hx)
  | _, _, _, .yld r hr, h => by simp [Vm.strip] at h
theorem RepL.plain {ρ' : Rho} {m : Nat} : ∀ {vs : List Value} {ds ds' : List D}, RepL ρ n im vs ds → stripL ds = some ds' → RepL ρ' m im vs ds
  | _, _, _, .nil, h => .nil
  | _, _, _, .cons v d vs ds h1 hv hr, h => by
    obtain ⟨d', r', h0, h2, rfl⟩ := stripL_cons h
    exact .cons v d vs ds h1 (Rep.plain hv h0) (RepL.plain hr h2)
theorem RepA.plain {ρ' : Rho} {m : Nat} : ∀ {vs : List Value} {ds ds' : List D}, RepA ρ n im vs ds → stripL ds = some ds' → RepA ρ' m im vs ds
  | _, _, _, .nil, h => .nil
  | _, _, _, .cons v d vs ds hv hr, h => by
    obtain ⟨d', r', h0, h2, rfl⟩ := stripL_cons h
    exact .cons v d vs ds (Rep.plain hv h0) (RepA.plain hr h2)
end
end

/-! ### what comes of plain data is plain -/
mutual
theorem strip_strip : ∀ {d d' : D}, strip d = some d' → strip d' = some d'
  | .bool b, d', h => by simp [strip] at h; subst h; rfl
  | .int k m, d', h => by simp [strip] at h; subst h; rfl
  | .str s, d', h => by simp [strip] at h; subst h; rfl
  | .nilp, d', h => by simp [strip] at h; subst h; rfl
  | .ptr r i j, d', h => by simp [strip] at h
  | .ept x j, d', h => by simp [strip] at h
  | .sl f xs, d', h => by
    simp only [strip] at h
    cases hx : stripL xs with
    | none => simp [hx] at h
    | some l => simp [hx] at h; subst h; simp [strip, stripL_stripL hx]
  | .vec r o m, d', h => by simp [strip] at h
  | .map r, d', h => by simp [strip] at h
  | .nilm, d', h => by simp [strip] at h; subst h; rfl
  | .fn f cs, d', h => by simp [strip] at h
  | .niln, d', h => by simp [strip] at h; subst h; rfl
  | .iface t d, d', h => by simp [strip] at h
  | .nili, d', h => by simp [strip] at h; subst h; rfl
  | .agg cs, d', h => by
    simp only [strip] at h
    cases hx : stripL cs with
    | none => simp [hx] at h
    | some l => simp [hx] at h; subst h; simp [strip, stripL_stripL hx]
  | .tup cs, d', h => by
    simp only [strip] at h
    cases hx : stripL cs with
    | none => simp [hx] at h
    | some l => simp [hx] at h; subst h; simp [strip, stripL_stripL hx]
  | .yld r, d', h => by simp [strip] at h
theorem stripL_stripL : ∀ {l l' : List D}, stripL l = some l' → stripL l' = some l'
  | [], l', h => by simp [stripL] at h; subst h; rfl
  | d :: r, l', h => by
    obtain ⟨d', r', h0, h1, rfl⟩ := stripL_cons h
    simp [stripL, strip_strip h0, stripL_stripL h1]
end
theorem purL_plain {f : Heap → D → Option (D × Heap)} (hf : ∀ H d d' H', f H d = some (d', H') → strip d' = some d') : ∀ {l l' : List D} {H H' : Heap}, purL f H l = some (l', H') → stripL l' = some l'
  | [], l', H, H', h => by simp [purL] at h; obtain ⟨rfl, rfl⟩ := h; rfl
  | d :: r, l', H, H', h => by
    simp only [purL] at h
    cases h0 : f H d with
    | none => simp [h0] at h
    | some p =>
      obtain ⟨d', H1⟩ := p
      simp only [h0, Option.bind_some] at h
      cases h1 : purL f H1 r with
      | none => simp [h1] at h
      | some q =>
        obtain ⟨r', H2⟩ := q
        simp [h1] at h
        obtain ⟨rfl, rfl⟩ := h
        simp [stripL, hf _ _ _ _ h0, purL_plain hf h1]
theorem pur_plain : ∀ k (H : Heap) (d d' : D) (H' : Heap), pur k H d = some (d', H') → strip d' = some d'
  | 0, H, d, d', H', h => by simp [pur] at h
  | k + 1, H, d, d', H', h => by
    have ih := pur_plain k
    simp only [pur] at h
    cases hst : strip d with
    | some d1 => simp [hst] at h; obtain ⟨rfl, rfl⟩ := h; exact strip_strip hst
    | none =>
      simp only [hst] at h
      cases d <;> simp only at h <;> try (cases h; done)
      case agg cs =>
        cases hp : purL (pur k) H cs with
        | none => simp [hp] at h
        | some q => obtain ⟨l, H1⟩ := q; simp [hp] at h; obtain ⟨rfl, rfl⟩ := h; simp [strip, purL_plain ih hp]
      case tup cs =>
        cases hp : purL (pur k) H cs with
        | none => simp [hp] at h
        | some q => obtain ⟨l, H1⟩ := q; simp [hp] at h; obtain ⟨rfl, rfl⟩ := h; simp [strip, purL_plain ih hp]
      case vec r o m =>
        cases hx : hget H r with
        | dead => simp [hx] at h
        | loop l => simp [hx] at h
        | map es => simp [hx] at h
        | arr xs =>
          simp only [hx] at h
          split at h
          · cases hp : purL (pur k) (H.set r (.fro xs)) ((xs.drop o).take m) with
            | none => simp [hp] at h
            | some q => obtain ⟨l, H1⟩ := q; simp [hp] at h; obtain ⟨rfl, rfl⟩ := h; simp [strip, purL_plain ih hp]
          · cases h
        | fro xs =>
          simp only [hx] at h
          split at h
          · cases hp : purL (pur k) H ((xs.drop o).take m) with
            | none => simp [hp] at h
            | some q => obtain ⟨l, H1⟩ := q; simp [hp] at h; obtain ⟨rfl, rfl⟩ := h; simp [strip, purL_plain ih hp]
          · cases h
theorem pures_plain {l l' : List D} {H H' : Heap} (h : pures H l = some (l', H')) : stripL l' = some l' := purL_plain (pur_plain deepest) h

/-! ### data without any place -/
section
variable {P : Program} {ρ ρ' : Rho} {im im' : Im} {H : Heap} {w w' : World} {n m N : Nat} {a : Act} {e : Env}
theorem flat1_rep {v : Value} {d : D} (h : flat1 d = true) (hv : Rep ρ n im v d) : Rep ρ' m im' v d := by
  cases hv <;> simp [flat1] at h
  case sl b o sz cap f xs vs hs hc hl hf hcap =>
    subst h
    exact .sl0 _ _ _ hf
  case bool b => exact .bool b
  case int k m => exact .int k m
  case str s => exact .str s
  case nilp => exact .nilp
  case sl0 a cap f hf => exact .sl0 _ _ _ hf
  case nilm => exact .nilm
  case niln => exact .niln
  case nili => exact .nili
theorem flat1_repL : ∀ {vs : List Value} {ds : List D}, RepL ρ n im vs ds → ds.all flat1 = true → RepL ρ' m im' vs ds
  | _, _, .nil, _ => .nil
  | _, _, .cons v d vs ds h1 hv hr, h => by
    simp only [List.all_cons, Bool.and_eq_true] at h
    exact .cons _ _ _ _ h1 (flat1_rep h.1 hv) (flat1_repL hr h.2)
theorem flat1_repA : ∀ {vs : List Value} {ds : List D}, RepA ρ n im vs ds → ds.all flat1 = true → RepA ρ' m im' vs ds
  | _, _, .nil, _ => .nil
  | _, _, .cons v d vs ds hv hr, h => by
    simp only [List.all_cons, Bool.and_eq_true] at h
    exact .cons _ _ _ _ (flat1_rep h.1 hv) (flat1_repA hr h.2)
theorem flat_rep {v : Value} {d : D} (h : flat d = true) (hv : Rep ρ n im v d) : Rep ρ' m im' v d := by
  by_cases ha : ∃ cs, d = .agg cs
  · obtain ⟨cs, rfl⟩ := ha
    simp only [flat] at h
    cases hv with
    | agg vs _ hl => exact .agg vs cs (flat1_repL hl h)
  · by_cases ht : ∃ cs, d = .tup cs
    · obtain ⟨cs, rfl⟩ := ht
      simp only [flat] at h
      cases hv with
      | tup vs _ hl => exact .tup vs cs (flat1_repA hl h)
    · have : flat d = flat1 d := by cases d <;> first | rfl | exact (ha ⟨_, rfl⟩).elim | exact (ht ⟨_, rfl⟩).elim
      rw [this] at h
      exact flat1_rep h hv

/-! ### calls -/
/-- the same objects behind a call that had none of them -/
theorem Mv.beside {ρ0 ρ2 : Rho} {Hc : Heap} {im1 im2 : Im} (hR : Rel ρ im1 H w) (hm : Mv ρ0 im1 [] w ρ2 im2 Hc w') : Mv ρ im1 H w ρ im2 H w' := by
  have hkeep : ∀ b, b < w.heap.size → w'.heap[b]? = w.heap[b]? := fun b hb => hm.tr.keep b hb (fun r hr => by simp at hr)
  refine ⟨⟨hm.rel.imc, fun r hr => ?_, hR.sep, fun r hr hl o => ?_⟩, hm.le, Tr.world hkeep hm.tr.size hm.tr.os hm.tr.tape hm.tr.output, fun b o v hv => ?_⟩
  · exact (hR.obj r hr).mono (fun _ _ => rfl) (Nat.le_refl _) hm.le (fun hl => hkeep _ (hR.block_lt hr hl))
  · cases hi : im2 (ρ r).b o with
    | none => rfl
    | some v =>
      rcases hm.nu _ _ _ hi with h1 | h1 | ⟨s, hs, _⟩
      · rw [hR.own r hr hl o] at h1; cases h1
      · have := hR.block_lt hr hl; omega
      · simp at hs
  · rcases hm.nu _ _ _ hv with h1 | h1 | ⟨s, hs, _⟩
    · exact .inl h1
    · exact .inr (.inl h1)
    · simp at hs
theorem OutR.of_pure {call : CallF} (hcall : CallOk P call) {f : FuncId} (hb : bodied P f = true) {as : List D} {Hc : Heap} {d d' : D} {vs : List Value} {H' : Heap} (hR : Rel ρ im H w) {im1 : Im} (m1 : Mv ρ im H w ρ im1 H' w) (has : RepA ρ H'.length im1 vs as) (hst : stripL as = some as)
    (hc : call f as [] = some (.ok d Hc)) (ho : outPure Hc d = some d') : Calls P f ⟨vs⟩ w (OutR ρ im H w (.ok d' (if flat d' then H else H'))) := by
  have h0 := (hcall f as [] _ hc (fun _ => default) im1 w vs (m1.rel.empty _) (has.plain hst)).calls hb
  refine h0.mono fun e w2 hout => ?_
  cases hout with
  | ok ρ2 im2 _ _ v _ hm hv =>
    unfold outPure at ho
    cases hp : pur deepest Hc d with
    | none => simp [hp] at ho
    | some q =>
      obtain ⟨d1, H3⟩ := q
      simp [hp] at ho; subst ho
      obtain ⟨im3, m3, hv3, _⟩ := pur_ok deepest Hc d d1 H3 ρ2 im2 w2 v hm.rel hv hp
      by_cases hf : flat d1 = true
      · rw [if_pos hf]
        have hkeep : ∀ b, b < w.heap.size → w2.heap[b]? = w.heap[b]? := fun b hb => hm.tr.keep b hb (fun r hr => by simp at hr)
        exact .ok ρ im H w2 v d1 ⟨hR.world hkeep, ImLe.refl _, Tr.world hkeep hm.tr.size hm.tr.os hm.tr.tape hm.tr.output, fun _ _ _ h => .inl h⟩ (flat_rep hf hv3)
      · rw [if_neg hf]
        have m4 := Mv.beside m1.rel (hm.trans m3)
        refine .ok ρ im3 H' w2 v d1 (m1.trans m4) (hv3.plain (pur_plain _ _ _ _ _ hp))
theorem callD_ok {A : Ann} {call : CallF} (hA : PrimOk P A) (hcall : CallOk P call) {f : FuncId} {args : List D} {r : R} {vs : List Value} (hR : Rel ρ im H w) (hargs : RepA ρ H.length im vs args) (h : callD P A call f args H = some r) :
    bodied P f = true ∧ Calls P f ⟨vs⟩ w (OutR ρ im H w r) := by
  unfold callD at h
  split at h
  · cases h
  · rename_i hb
    have hb : bodied P f = true := by simpa using hb
    refine ⟨hb, ?_⟩
    cases hp : A.prim f with
    | some p => simp only [hp] at h; exact hA f p hp args H r h ρ im w vs hR hargs
    | none =>
      simp only [hp] at h
      cases hm : A.mode f with
      | state => simp only [hm] at h; exact (hcall f args H r h ρ im w vs hR hargs).calls hb
      | fresh =>
        simp only [hm] at h
        cases hpu : pures H args with
        | none => simp [hpu] at h
        | some q =>
          obtain ⟨as, H'⟩ := q
          cases hc : call f as [] with
          | none => simp [hpu, hc] at h
          | some r' => cases r' <;> simp [hpu, hc] at h
      | pure =>
        simp only [hm] at h
        cases hpu : pures H args with
        | none => simp [hpu] at h
        | some q =>
          obtain ⟨as, H'⟩ := q
          cases hc : call f as [] with
          | none => simp [hpu, hc] at h
          | some r' =>
            cases r' with
            | pan _ _ => simp [hpu, hc] at h
            | ok d Hc =>
              simp only [hpu, hc, Option.bind_some] at h
              rw [if_neg (by decide)] at h
              cases ho : outPure Hc d with
              | none => simp [ho] at h
              | some d' =>
                simp [ho] at h; subst h
                obtain ⟨im1, m1, rep, _⟩ := pures_ok hR hargs hpu
                exact OutR.of_pure hcall hb hR m1 rep (pures_plain hpu) hc ho
theorem RepA.singles {vs : List Value} {d : D} (h : RepA ρ n im vs [d]) : ∃ v, vs = [v] ∧ Rep ρ n im v d := by
  cases h with
  | cons v _ vs _ hv hr => cases hr; exact ⟨v, rfl, hv⟩
theorem RepA.two {vs : List Value} {d e : D} (h : RepA ρ n im vs [d, e]) : ∃ v u, vs = [v, u] ∧ Rep ρ n im v d ∧ Rep ρ n im u e := by
  cases h with
  | cons v _ vs _ hv hr => obtain ⟨u, rfl, hu⟩ := RepA.singles hr; exact ⟨v, u, rfl, hv, hu⟩
theorem builtin_ok {b : Builtin} {ts : List TypeId} {ty : TypeId} {consts : Array Bool} {args : List D} {vs : List Value} {d : D} {H' : Heap} (hR : Rel ρ im H w) (hargs : RepA ρ H.length im vs args) (h : builtinD P b ts args H = some (d, H')) :
    ∃ v ρ' im' w', (builtin b ⟨ts⟩ ty consts ⟨vs⟩).run P w = .ok (.value v) w' ∧ Mv ρ im H w ρ' im' H' w' ∧ Rep ρ' H'.length im' v d := by
  unfold builtinD at h
  split at h
  · rename_i t x
    cases hl : lenD P t H x with
    | none => simp [hl] at h
    | some m =>
      simp [hl] at h; obtain ⟨rfl, rfl⟩ := h
      obtain ⟨v, rfl, hv⟩ := hargs.singles
      refine ⟨_, ρ, im, w, ?_, Mv.refl hR, .int _ _⟩
      have := len_run (P := P) (ty := ty) hR hv hl
      simp [builtin, this]
  · rename_i t u s x
    obtain ⟨v1, v2, rfl, h1, h2⟩ := hargs.two
    have hu : ((∃ e', P.underlying u = some (.slice e')) ∨ P.underlying u = some .string) ∧ appendD P t H s x = some (d, H') := by
      split at h
      · rename_i e' hu; exact ⟨.inl ⟨e', hu⟩, h⟩
      · rename_i hu; exact ⟨.inr hu, h⟩
      · cases h
    obtain ⟨v, ρ', im', w', g1, g2, g3⟩ := append_run (ty := ty) hR hu.1 h1 h2 hu.2
    exact ⟨v, ρ', im', w', by simp [builtin, g1], g2, g3⟩
  · rename_i l
    cases hl : fold1 minD args with
    | none => simp [hl] at h
    | some d' =>
      simp [hl] at h; obtain ⟨rfl, rfl⟩ := h
      obtain ⟨v, g1, g2⟩ := min_run (P := P) (w := w) (ts := ⟨ts⟩) (ty := ty) hargs hl
      exact ⟨v, ρ, im, w, by simp [builtin, g1], Mv.refl hR, g2⟩
  · rename_i l
    cases hl : fold1 maxD args with
    | none => simp [hl] at h
    | some d' =>
      simp [hl] at h; obtain ⟨rfl, rfl⟩ := h
      obtain ⟨v, g1, g2⟩ := max_run (P := P) (w := w) (ts := ⟨ts⟩) (ty := ty) hargs hl
      exact ⟨v, ρ, im, w, by simp [builtin, g1], Mv.refl hR, g2⟩
  · cases h
theorem callFunc_run {f : FuncId} {args : Array Value} (h : bodied P f = true) : (callFunc f args).run P w = .ok (.enter f args) w := by
  unfold bodied at h
  cases hf : P.funcs[f]? with
  | none => simp [hf] at h
  | some fn =>
    simp only [hf, Bool.and_eq_true, Bool.not_eq_true'] at h
    have hn : fn.body.isNone = false := by cases hb : fn.body <;> simp [hb] at h ⊢
    unfold callFunc
    simp only [Sem.run_bind, run_program, Result.andThen_ok, hf, Sem.run_ite, h.2, hn, Bool.false_eq_true, if_false, Sem.run_pure]
end
end Vm
