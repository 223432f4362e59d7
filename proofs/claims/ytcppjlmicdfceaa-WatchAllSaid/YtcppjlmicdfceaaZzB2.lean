/- A statement out of what the interpreter comes to. -/
import Derived.Test.YtcppjlmicdfceaaZzB1
import Derived.ProofKit
set_option linter.unusedVariables false
set_option linter.unusedSimpArgs false
namespace Vm
open Go Go.RowKit

section
variable {H : Type} {enc : TypeId × Value → H} {P : Program} {w : World}
theorem value_typed {pk : Nat} {t : TypeId} {v : Value} {d : DataW H} {ps : List MemPlace} {ρ : Rho} {n : Nat} (h : DataW.Trod enc P w 0 (fun _ => true) true t v d ps) (hp : plainT P pk t = true) {base : Nat} (hv : Value.okWide P w .any base t v) :
    ∃ x, Rep ρ n (im0 w) v x ∧ ((aggT P t = true ∧ ∃ cs, x = .agg cs ∧ Typed P t cs) ∨ (aggT P t = false ∧ Typed P t [x])) := by
  obtain ⟨fuel, hf⟩ := h
  obtain ⟨ds, hds, hty⟩ := trod_typed (ρ := ρ) (n := n) fuel pk t _ _ hf hp
  cases ha : aggT P t with
  | true =>
    have : ∃ cs, v = .agg cs := by
      unfold Value.okWide at hv
      unfold aggT isAggT at ha
      cases hu : P.underlying t with
      | none => simp [hu] at ha
      | some td =>
        cases td <;> simp [hu] at ha
        all_goals (simp only [hu] at hv; obtain ⟨cs, rfl, _⟩ := hv; exact ⟨cs, rfl⟩)
    obtain ⟨⟨cs⟩, rfl⟩ := this
    exact ⟨.agg ds, .agg cs ds (by simpa [Value.cells] using hds), .inl ⟨rfl, ds, rfl, hty⟩⟩
  | false =>
    obtain ⟨x, rfl, hna⟩ := typed_one hty ha
    have hcell : v.cells.toList = [v] := by
      have : ∀ cs, v ≠ .agg cs := by
        rintro cs rfl
        unfold plainT at hp
        cases pk with
        | zero => simp at hp
        | succ pk =>
          simp only at hp
          unfold Value.okWide at hv
          cases hu : P.underlying t with
          | none => simp [hu] at hp
          | some td =>
            cases td <;> simp [hu] at hp <;> simp only [hu] at hv <;> first
              | (simp [Cell.okWide, Cell.ok, hu] at hv; done)
              | (simp [aggT, isAggT, hu] at ha; done)
      cases v <;> first | rfl | exact (this _ rfl).elim
    rw [hcell] at hds
    cases hds with
    | cons _ _ _ _ _ hr _ => exact ⟨x, hr, .inr ⟨rfl, hty⟩⟩
theorem args_typed {pk : Nat} {ρ : Rho} {n : Nat} : ∀ {ts : List TypeId} {vs : List Value} {ds : List (DataW H)} {ps : List MemPlace}, DataW.TrodAll enc P w 0 (fun _ => true) true ts vs ds ps →
    (∀ t ∈ ts, plainT P pk t = true) → (∀ (j : Nat) t v, ts[j]? = some t → vs[j]? = some v → ∃ base, Value.okWide P w .any base t v) → ∃ Ds, RepA ρ n (im0 w) vs Ds ∧ TypedA P ts Ds
  | [], [], [], ps, h, _, _ => ⟨[], .nil, .nil⟩
  | t :: ts, v :: vs, d :: ds, ps, h, hp, hv => by
    obtain ⟨p, q, h1, h2, _⟩ := h
    obtain ⟨base, hv0⟩ := hv 0 t v rfl rfl
    obtain ⟨x, hx, hc⟩ := value_typed (ρ := ρ) (n := n) h1 (hp t (by simp)) hv0
    obtain ⟨Ds, g1, g2⟩ := args_typed (ρ := ρ) (n := n) h2 (fun t ht => hp t (by simp [ht])) (fun j t v a b => hv (j + 1) t v (by simpa using a) (by simpa using b))
    refine ⟨x :: Ds, .cons _ _ _ _ hx g1, ?_⟩
    rcases hc with ⟨ha, cs, rfl, hty⟩ | ⟨ha, hty⟩
    · exact .agg t ts cs Ds ha hty g2
    · exact .one t ts x Ds ha hty g2
  | [], _ :: _, _, _, h, _, _ => by simp [DataW.TrodAll] at h
  | [], [], _ :: _, _, h, _, _ => by simp [DataW.TrodAll] at h
  | _ :: _, [], _, _, h, _, _ => by simp [DataW.TrodAll] at h
  | _ :: _, _ :: _, [], _, h, _, _ => by simp [DataW.TrodAll] at h
theorem trodAll_stays {W W' : World} (hl : laidOutB P = true) (hb : Below W.heap.size W W') : ∀ {ts : List TypeId} {vs : List Value} {ds : List (DataW H)} {ps : List MemPlace}, DataW.TrodAll enc P W 0 (fun _ => true) true ts vs ds ps →
    (∀ t ∈ ts, P.readableRec t = true ∧ t < P.types.size) → (∀ x ∈ ps, x.block < W.heap.size) → DataW.TrodAll enc P W' 0 (fun b => decide (b < W.heap.size)) true ts vs ds ps
  | [], [], [], ps, h, _, _ => h
  | t :: ts, v :: vs, d :: ds, ps, h, ht, hlt => by
    obtain ⟨p, q, h1, h2, rfl⟩ := h
    exact ⟨p, q, Below.trod hl (ht t (by simp)).1 (ht t (by simp)).2 h1 hb (fun x hx => hlt x (by simp [hx])), trodAll_stays hl hb h2 (fun t h => ht t (by simp [h])) (fun x hx => hlt x (by simp [hx])), rfl⟩
  | [], _ :: _, _, _, h, _, _ => by simp [DataW.TrodAll] at h
  | [], [], _ :: _, _, h, _, _ => by simp [DataW.TrodAll] at h
  | _ :: _, [], _, _, h, _, _ => by simp [DataW.TrodAll] at h
  | _ :: _, _ :: _, [], _, h, _, _ => by simp [DataW.TrodAll] at h
theorem Tr.below {ρ ρ' : Rho} {H' : Heap} {W W' : World} (h : Tr ρ [] W ρ' H' W') : Below W.heap.size W W' :=
  ⟨h.os, h.tape, h.output, h.size, fun k hk => h.keep k hk (fun r hr => by simp at hr)⟩
end

/-- the contract that a statement's row asks -/
theorem law_contract {C : Checked} {f : FuncId} {fn : Func} {s : ChangeSpec} {H : Type} {enc : TypeId × Value → H} {A : Ann} {pk : Nat} {tb : TypeId} (hA : PrimOk C.prog A) (hvars : s.vars = []) (hl : laidOutB C.prog = true)
    (hts : ∀ t ∈ fn.params.toList, C.prog.readableRec t = true ∧ t < C.prog.types.size) (hpl : ∀ t ∈ fn.params.toList, plainT C.prog pk t = true)
    (hbod : bodied C.prog f = true) (hres : fn.resultTypes = #[tb]) (htb : C.prog.underlying tb = some .bool)
    (hs : ∀ ds : List (DataW H), ds.length = fn.params.size → (s.fn H ds).results = [.lit (.bool true)] ∧ (s.fn H ds).args = ds ∧ (s.fn H ds).vars = [])
    (hrun : ∀ Ds, TypedA C.prog fn.params.toList Ds → ∃ k H', runF C.prog A k f Ds [] = some (.ok (.bool true) H')) :
    ∀ (W : World) (base : Nat) (args : Array Value) (ds gs : List (DataW H)) (before : List MemPlace),
      (∀ (j : Nat) t v, fn.params[j]? = some t → args[j]? = some v → Value.okWide C.prog W .any base t v) →
      DataW.Whole enc C.prog fn.params.toList s.vars false W args.toList ds gs before →
      Calls C.prog f args W fun e W' => ∃ v, e = .returned v ∧ s.post enc C.prog fn false true false false W args v W' := by
  intro W base args ds gs before hval hW
  have hW' := hW
  obtain ⟨p, q, hAll, hV, hps, hfz, hnd⟩ := hW
  rw [hvars] at hV
  have hgq : gs = [] ∧ q = [] := by
    cases gs with
    | nil => exact ⟨rfl, by simpa [DataW.TrodVars] using hV⟩
    | cons g gs => simp [DataW.TrodVars] at hV
  obtain ⟨rfl, rfl⟩ := hgq
  obtain ⟨Ds, hrep, hty⟩ := args_typed (ρ := fun _ => default) (n := 0) hAll hpl (fun j t v a b => ⟨base, hval j t v (by simpa using a) (by simpa using b)⟩)
  obtain ⟨k, H', hk⟩ := hrun Ds hty
  have hc := (runF_ok C.mixed hA k f Ds [] _ hk (fun _ => default) (im0 W) W args.toList (rel0 W _) hrep).calls hbod
  refine hc.mono fun e W' hout => ?_
  cases hout with
  | ok ρ' im' _ _ v _ hm hv =>
    have hvb := hv.bool_inv
    subst hvb
    have hb : Below W.heap.size W W' := hm.tr.below
    have hlen : ds.length = fn.params.size := by
      have : ∀ {ts : List TypeId} {vs : List Value} {ds : List (DataW H)} {ps : List MemPlace}, DataW.TrodAll enc C.prog W 0 (fun _ => true) true ts vs ds ps → ds.length = ts.length := by
        intro ts
        induction ts with
        | nil => intro vs ds ps h; cases vs <;> cases ds <;> simp [DataW.TrodAll] at h ⊢
        | cons t ts ih =>
          intro vs ds ps h
          cases vs <;> cases ds <;> simp [DataW.TrodAll] at h ⊢
          obtain ⟨p, _, q, h2, _⟩ := h
          exact ih h2
      simpa using this hAll
    obtain ⟨h1, h2, h3⟩ := hs ds hlen
    refine ⟨_, rfl, ds, [], before, [], p, [], hW', ?_, ?_, ?_, ?_, fun h => by cases h⟩
    · rw [List.append_nil, h1, hres]
      refine ⟨[], [], ⟨1, ?_⟩, rfl, rfl⟩
      simp [DataW.trod, htb, Value.cells, Value.resultList]
    · rw [List.append_nil, h2]
      refine trodAll_stays hl hb hAll hts fun x hx => ?_
      have := hW'.lt x (by rw [hps]; simp [hx])
      simpa using this
    · rw [List.append_nil, h3, hvars]; rfl
    · exact hb.frame _
end Vm
