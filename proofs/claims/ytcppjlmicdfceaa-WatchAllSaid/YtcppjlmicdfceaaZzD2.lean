/- Regions whose order is open, in the model. -/
import Derived.Test.YtcppjlmicdfceaaZzD1
import Derived.Test.YtcppjlmicdfceaaZzW8
import Derived.OrdersIn
set_option linter.unusedVariables false
set_option linter.unusedSimpArgs false
namespace Vm
open Go Go.RowKit

section
variable {P : Program} {A : Ann} {call : CallF} {N : Nat} {ops : Array Oper}

abbrev S2 := Env × Heap
/-- one operation, by its number -/
def effX (P : Program) (A : Ann) (call : CallF) (N : Nat) (ops : Array Oper) (i : Nat) (s : S2) : Option S2 :=
  match ops[i]? with
  | none => some s
  | some o => if dstOk N o.dst = false then none else
    match wantD ops s.1 o with
    | some true => match stepX P A call o.op s.1 s.2 with
      | some (.ok d H) => some (putO s.1 o.dst d, H)
      | _ => none
    | some false => some (putO s.1 o.dst ud, s.2)
    | none => none
def anyX (P : Program) (A : Ann) (call : CallF) (N : Nat) (ops : Array Oper) (E : S2) : Nat → Array Bool → S2 → Prop
  | 0, listed, s => Region.ready .any ops listed = [] ∧ s = E
  | fuel + 1, listed, s => (Region.ready .any ops listed = [] → s = E) ∧ ∀ i ∈ Region.ready .any ops listed, ∃ s1, effX P A call N ops i s = some s1 ∧ anyX P A call N ops E fuel (listed.setIfInBounds i true) s1

theorem putO_ne {e : Env} {x : Option Nat} {v : D} {t : Nat} (h : ∀ d, x = some d → t ≠ d) : putO e x v t = e t := by
  cases x with
  | none => rfl
  | some d => simp [putO, put, h d rfl]
theorem putO_comm {e : Env} {x y : Option Nat} {v u : D} (h : ∀ d, x = some d → y ≠ some d) : putO (putO e x v) y u = putO (putO e y u) x v := by
  cases x with
  | none => rfl
  | some d =>
    cases y with
    | none => rfl
    | some c =>
      have hne : d ≠ c := fun e => h d rfl (e ▸ rfl)
      simp only [putO, put, Env.mk.injEq, and_true]
      funext t
      by_cases h1 : t = c <;> by_cases h2 : t = d <;> simp_all
theorem wantD_put {e : Env} {o : Oper} {x : Option Nat} {v : D} (h : ∀ d, x = some d → d ∉ o.looksAt ops) : wantD ops (putO e x v) o = wantD ops e o := by
  unfold wantD
  cases hg : o.guard with
  | none => rfl
  | some p =>
    obtain ⟨g, want⟩ := p
    simp only
    cases hd : (ops[g]?).bind (·.dst) with
    | none => rfl
    | some t =>
      simp only
      rw [putO_ne (fun d hd' ht => h d hd' (by subst ht; simp [Oper.looksAt, hg, hd]))]
theorem stepX_put {e : Env} {H : Heap} {o : Oper} {x : Option Nat} {v : D} (h : ∀ d, x = some d → d ∉ o.looksAt ops) : stepX P A call o.op (putO e x v) H = stepX P A call o.op e H := by
  refine stepX_congr fun t ht => putO_ne fun d hd htd => h d hd ?_
  subst htd
  exact List.mem_append_left _ (List.mem_filterMap.2 ⟨.tmp t, ht, rfl⟩)
/-- two quiet operations, apart: either first -/
theorem effX_comm {i j : Nat} {oi oj : Oper} (hi : ops[i]? = some oi) (hj : ops[j]? = some oj) (hap : oi.apart ops oj = true) (hqi : quietO A oi.op = true) (hqj : quietO A oj.op = true) {s s1 s2 : S2}
    (h1 : effX P A call N ops i s = some s1) (h2 : effX P A call N ops j s1 = some s2) : ∃ s1', effX P A call N ops j s = some s1' ∧ effX P A call N ops i s1' = some s2 := by
  obtain ⟨a1, a2, a3⟩ := Oper.apart_spec hap
  obtain ⟨e, H⟩ := s
  -- what each leaves
  have eff : ∀ {k : Nat} {o : Oper} {e : Env} {H : Heap} {s' : S2}, ops[k]? = some o → quietO A o.op = true → effX P A call N ops k (e, H) = some s' →
      ∃ v, s' = (putO e o.dst v, H) ∧ dstOk N o.dst = true ∧ ((wantD ops e o = some true ∧ stepX P A call o.op e H = some (.ok v H)) ∨ (wantD ops e o = some false ∧ v = ud)) := by
    intro k o e H s' hk hq h
    unfold effX at h
    simp only [hk] at h
    split at h
    · cases h
    · rename_i hd
      simp only [Bool.not_eq_false] at hd
      cases hw : wantD ops e o with
      | none => simp [hw] at h
      | some b =>
        cases b with
        | false => simp [hw] at h; exact ⟨ud, h.symm, hd, .inr ⟨rfl, rfl⟩⟩
        | true =>
          simp only [hw] at h
          cases hs : stepX P A call o.op e H with
          | none => simp [hs] at h
          | some r =>
            cases r with
            | pan _ _ => simp [hs] at h
            | ok d H' =>
              simp [hs] at h
              have := quiet_same hq hs
              subst this
              exact ⟨d, h.symm, hd, .inl ⟨rfl, rfl⟩⟩
  obtain ⟨v, rfl, hdi, hvi⟩ := eff hi hqi h1
  obtain ⟨u, rfl, hdj, hvj⟩ := eff hj hqj h2
  have wj := wantD_put (ops := ops) (e := e) (o := oj) (x := oi.dst) (v := v) a1
  have sj := stepX_put (P := P) (A := A) (call := call) (ops := ops) (e := e) (H := H) (o := oj) (x := oi.dst) (v := v) a1
  have wi := wantD_put (ops := ops) (e := e) (o := oi) (x := oj.dst) (v := u) a3
  have si := stepX_put (P := P) (A := A) (call := call) (ops := ops) (e := e) (H := H) (o := oi) (x := oj.dst) (v := u) a3
  rw [wj, sj] at hvj
  refine ⟨(putO e oj.dst u, H), ?_, ?_⟩
  · unfold effX
    simp only [hj, hdj]
    rcases hvj with ⟨w1, s1⟩ | ⟨w1, rfl⟩
    · simp [w1, s1]
    · simp [w1]
  · unfold effX
    simp only [hi, hdi, wi, si]
    rw [putO_comm (fun d hd => a2 d hd)]
    rcases hvi with ⟨w1, s1⟩ | ⟨w1, rfl⟩
    · simp [w1, s1]
    · simp [w1]

/-- who waits, waits on listed ones -/
def ClosedL (ops : Array Oper) (listed : Array Bool) : Prop :=
  ∀ k ok, ops[k]? = some ok → listed.getD k true = true → ∀ e ∈ ok.after, Region.binds .any e = true → listed.getD e.on false = true
theorem getD_false_true {listed : Array Bool} {k : Nat} (h : listed.getD k false = true) : listed.getD k true = true := by
  rcases Nat.lt_or_ge k listed.size with h' | h'
  · simp [h'] at h ⊢; exact h
  · simp [Array.getElem?_eq_none h'] at h
theorem chain_false {listed : Array Bool} (hc : ClosedL ops listed) {i : Nat} (hi : listed.getD i true = false) : ∀ (n j : Nat), (∀ oj, ops[j]? = some oj → ∀ e ∈ oj.after, Region.binds .any e = true → listed.getD e.on false = true) → chainOn ops n j i = false
  | 0, _, _ => rfl
  | n + 1, j, h => by
    simp only [chainOn]
    cases ho : ops[j]? with
    | none => rfl
    | some oj =>
      simp only [Option.map_some, Option.getD_some, Bool.or_eq_false_iff, List.any_eq_false, Bool.and_eq_true, beq_iff_eq, not_and]
      refine ⟨fun e he hb heq => ?_, fun e he hb => ?_⟩
      · have hl := h oj ho e (by simpa using he) hb
        rw [heq] at hl; rw [getD_false_true hl] at hi; cases hi
      · have hl := h oj ho e (by simpa using he) hb
        rw [chain_false hc hi n e.on (fun ok hok e' he' hb' => hc e.on ok hok (getD_false_true hl) e' he' hb')]; simp
theorem ClosedL.set {listed : Array Bool} (hc : ClosedL ops listed) {i : Nat} (hi : i ∈ Region.ready .any ops listed) : ClosedL ops (listed.setIfInBounds i true) := by
  intro k ok hk hl e he hb
  obtain ⟨hiun, oi, hoi, hall⟩ := mem_ready.1 hi
  have old : listed.getD e.on false = true := by
    by_cases hki : k = i
    · subst hki; rw [hoi] at hk; cases hk; exact hall e he hb
    · rw [getD_set_ne true (Ne.symm hki)] at hl; exact hc k ok hk hl e he hb
  rcases Nat.lt_or_ge e.on listed.size with h' | h'
  · by_cases hx : i = e.on
    · rw [← hx]; rw [← hx] at h'; simp [h']
    · simp only [Array.getD_eq_getD_getElem?, Array.getElem?_setIfInBounds, if_neg hx]; simpa using old
  · simp [Array.getElem?_eq_none h'] at old
theorem anyX_first {E : S2} {i : Nat} {oi : Oper} (hi : ops[i]? = some oi) : ∀ (fuel : Nat) (listed : Array Bool) (s s1 : S2),
    ClosedL ops listed → (∀ j oj, ops[j]? = some oj → j ≠ i → listed.getD j true = false → (∀ e ∈ oj.after, Region.binds .any e = true → e.on ≠ i) → chainOn ops ops.size j i = false → oi.apart ops oj = true ∧ quietO A oi.op = true ∧ quietO A oj.op = true) →
    i ∈ Region.ready .any ops listed → effX P A call N ops i s = some s1 → anyX P A call N ops E fuel (listed.setIfInBounds i true) s1 → anyX P A call N ops E (fuel + 1) listed s := by
  intro fuel
  induction fuel with
  | zero =>
    intro listed s s1 _ _ hr hy H
    refine ⟨fun h => (by rw [h] at hr; cases hr), fun j hj => ?_⟩
    by_cases hji : j = i
    · subst hji; exact ⟨s1, hy, H⟩
    · have := ready_mono hj hji
      rw [H.1] at this
      cases this
  | succ fuel ih =>
    intro listed s s1 hcl hfree hr hy H
    refine ⟨fun h => (by rw [h] at hr; cases hr), fun j hj => ?_⟩
    by_cases hji : j = i
    · subst hji; exact ⟨s1, hy, H⟩
    · obtain ⟨s2, h2, H2⟩ := H.2 j (ready_mono hj hji)
      obtain ⟨hjun, oj, hoj, hall⟩ := mem_ready.1 hj
      have hnot : ∀ e ∈ oj.after, Region.binds .any e = true → e.on ≠ i := fun e he hb heq => by
        have h1 := hall e he hb
        have h0 := (mem_ready.1 hr).1
        rw [heq] at h1
        rcases Nat.lt_or_ge i listed.size with h' | h'
        · simp [h'] at h0 h1; rw [h0] at h1; cases h1
        · simp [Array.getElem?_eq_none h'] at h1
      obtain ⟨hap, hqi, hqj⟩ := hfree j oj hoj hji hjun hnot (chain_false hcl (mem_ready.1 hr).1 _ _ (fun ok hok => by rw [hoj] at hok; cases hok; exact hall))
      obtain ⟨s1', g1, g2⟩ := effX_comm hi hoj hap hqi hqj hy h2
      have hfree' : ∀ k ok, ops[k]? = some ok → k ≠ i → (listed.setIfInBounds j true).getD k true = false →
          (∀ e ∈ ok.after, Region.binds .any e = true → e.on ≠ i) → chainOn ops ops.size k i = false → oi.apart ops ok = true ∧ quietO A oi.op = true ∧ quietO A ok.op = true := fun k ok hk hki hun hno hch => by
        refine hfree k ok hk hki ?_ hno hch
        by_cases hjk : j = k
        · subst hjk; exact hjun
        · rw [getD_set_ne true hjk] at hun; exact hun
      refine ⟨s1', g1, ih (listed.setIfInBounds j true) s1' s2 (hcl.set hj) hfree' (ready_mono hr (Ne.symm hji)) g2 ?_⟩
      rw [Array.setIfInBounds_comm _ _ hji]
      exact H2
theorem anyX_lex {E : S2} (hloud : ∀ j k oj, ops[j]? = some oj → k < j → chainOn ops ops.size j k = false → quietAt A ops k = true ∧ quietO A oj.op = true) : ∀ (l : List Oper) (k : Nat) (listed : Array Bool) (e : Env) (H : Heap), (∀ j, l[j]? = ops[k + j]?) →
    (∀ j, j < k → listed.getD j true = true) → ClosedL ops listed →
    Region.lexFrom .any ops l.length k listed = true → runOpsX P A call N ops l e H = some ⟨.norm, E.1, E.2⟩ → anyX P A call N ops E l.length listed (e, H)
  | [], _, _, _, _, _, _, _, hB, h => by
    simp [runOpsX] at h
    exact ⟨by simpa [Region.lexFrom] using hB, by rw [h.1, h.2]⟩
  | o :: l, k, listed, e, H, hl, hdone, hcl, hB, h => by
    have h0 : ops[k]? = some o := by simpa using (hl 0).symm
    simp only [List.length_cons, Region.lexFrom, Bool.and_eq_true] at hB
    obtain ⟨⟨hr, hf⟩, hB'⟩ := hB
    have hr' : k ∈ Region.ready .any ops listed := by simpa using hr
    have hkl : listed.getD k true = false := (mem_ready.1 hr').1
    simp only [runOpsX] at h
    have key : ∃ s1 : S2, effX P A call N ops k (e, H) = some s1 ∧ runOpsX P A call N ops l s1.1 s1.2 = some ⟨.norm, E.1, E.2⟩ := by
      unfold effX
      simp only [h0]
      split at h
      · cases h
      · rename_i hd
        rw [if_neg hd]
        split at h
        · rename_i hw
          simp only [hw]
          split at h
          · rename_i d H1 hs
            simp only [hs]
            exact ⟨_, rfl, h⟩
          · cases h
        · rename_i hw
          simp only [hw]
          exact ⟨_, rfl, h⟩
        · cases h
    obtain ⟨s1, hy, hrest⟩ := key
    refine anyX_first h0 l.length listed (e, H) s1 hcl (fun j oj hj hjk hun hno hch => ?_) hr' hy ?_
    · refine ⟨Region.free_spec h0 hf j oj hj hjk hun hno, ?_⟩
      have hlt : k < j := by
        rcases Nat.lt_or_ge j k with h' | h'
        · rw [hdone j h'] at hun; cases hun
        · omega
      have := hloud j k oj hj hlt hch
      exact ⟨by simpa [quietAt, h0] using this.1, this.2⟩
    · refine anyX_lex hloud l (k + 1) _ s1.1 s1.2 (fun j => by have := hl (j + 1); simpa [Nat.add_assoc, Nat.add_comm 1 j] using this) (fun j hj => ?_) (hcl.set hr') hB' hrest
      by_cases hjk : j = k
      · subst hjk
        rcases Nat.lt_or_ge j listed.size with h' | h'
        · simp [h']
        · simp [h']
      · rw [getD_set_ne true (Ne.symm hjk)]
        exact hdone j (by omega)
theorem wpAny_of_anyX (hA : PrimOk P A) (hcall : CallOk P call) {E : S2} {n0 : Nat} {ro : Option Nat} {n : Nat} {Q : Exit → Act → World → Prop} : ∀ (fuel : Nat) (listed : Array Bool) {ρ : Rho} {im : Im} {w : World} {a : Act} {s : S2},
    Rel ρ im s.2 w → EnvR ρ s.2.length im N a s.1 → DfR ρ n0 im s.2 w ro a.defers s.1.df → anyX P A call N ops E fuel listed s → (∀ a' w', After ρ im s.2 w N n0 ro ⟨.norm, E.1, E.2⟩ .normal a' w' → Q .normal a' w') → wpAnyIn (FW ro) n P .any ops Q fuel listed a w
  | 0, listed, ρ, im, w, a, s, hR, he, hdf, h, hQ => by
    obtain ⟨h1, rfl⟩ := h
    exact ⟨h1, hQ _ _ (.plain (x := .norm) hR he hdf (fun d h => by cases h))⟩
  | fuel + 1, listed, ρ, im, w, a, s, hR, he, hdf, h, hQ => by
    refine ⟨fun h0 => ?_, fun i hi => ?_⟩
    · have := h.1 h0
      subst this
      exact hQ _ _ (.plain (x := .norm) hR he hdf (fun d h => by cases h))
    · obtain ⟨s1, g1, g2⟩ := h.2 i hi
      unfold wpOpIn
      unfold effX at g1
      cases ho : ops[i]? with
      | none =>
        simp only [ho] at g1
        simp at g1; subst g1
        exact wpAny_of_anyX hA hcall fuel _ hR he hdf g2 hQ
      | some o =>
        simp only [ho] at g1
        simp only
        split at g1
        · cases g1
        · rename_i hdst
          simp only [Bool.not_eq_false] at hdst
          cases hw : wantD ops s.1 o with
          | none => simp [hw] at g1
          | some b =>
            have hwant := yielded_wantD he hw
            rw [hwant]
            cases b with
            | false =>
              simp [hw] at g1; subst g1
              simp only [Bool.false_eq_true, if_false]
              exact ⟨fun _ _ => trivial, wpAny_of_anyX hA hcall (s := (putO s.1 o.dst ud, s.2)) fuel _ hR (he.put hdst rep_ud) (by rw [put_defers, putO_df]; exact hdf) g2 hQ⟩
            | true =>
              simp only [hw] at g1
              simp only [if_true]
              cases hs : stepX P A call o.op s.1 s.2 with
              | none => simp [hs] at g1
              | some r =>
                cases r with
                | pan _ _ => simp [hs] at g1
                | ok d H1 =>
                  simp [hs] at g1; subst g1
                  have hop := stepOp_ok hA hcall (o := o) hR he (stepX_stepOp hs)
                  refine hop ro n _ _ ?_ ?_
                  · intro v w1 hout
                    cases hout with
                    | ok ρ1 im1 _ _ _ _ hm hv =>
                      exact wpAny_of_anyX hA hcall (s := (putO s.1 o.dst d, H1)) fuel _ hm.rel ((hm.env he).put hdst hv) (by rw [put_defers, putO_df]; exact hdf.mv hm) g2 (fun a' w' haf => hQ a' w' (haf.mv hm))
                  · intro ch w1 hout
                    cases hout
theorem draw_ok (hm : P.follows .mixedOrders = true) (hA : PrimOk P A) (hcall : CallOk P call) {id : Nat} {ρ : Rho} {im : Im} {H : Heap} {w : World} {a : Act} {e : Env} {s : St} {n0 : Nat} {ro : Option Nat} {n : Nat} (hR : Rel ρ im H w) (he : EnvR ρ H.length im N a e) (hdf : DfR ρ n0 im H w ro a.defers e.df)
    (hl : lexD A ops = true) (h : runOpsX P A call N ops ops.toList e H = some s) : (Code.region id ops true).wpIn (FW ro) n P (After ρ im H w N n0 ro s) a w := by
  have hnorm : ∀ (l : List Oper) (e : Env) (H : Heap) (s : St), runOpsX P A call N ops l e H = some s → s.ex = .norm := by
    intro l
    induction l with
    | nil => intro e H s h; simp [runOpsX] at h; subst h; rfl
    | cons o l ih =>
      intro e H s h
      simp only [runOpsX] at h
      split at h
      · cases h
      · split at h
        · split at h
          · exact ih _ _ _ h
          · cases h
        · exact ih _ _ _ h
        · cases h
  have hex := hnorm _ _ _ _ h
  obtain ⟨ex, e2, H2⟩ := s
  simp only at hex
  subst hex
  simp only [lexD, Bool.and_eq_true, Region.lexB] at hl
  obtain ⟨⟨hns, hlex⟩, hloud⟩ := hl
  refine wpIn_region_any hm ?_
  have hany := anyX_lex (P := P) (A := A) (call := call) (N := N) (E := (e2, H2)) (ops := ops) (fun j k oj hj hkj hno => by
    have hjs : j < ops.size := by
      rcases Nat.lt_or_ge j ops.size with h' | h'
      · exact h'
      · simp [Array.getElem?_eq_none h'] at hj
    have h1 := List.all_eq_true.1 hloud j (by simpa using hjs)
    have h2 := List.all_eq_true.1 h1 k (by simpa using hkj)
    rw [hno, Bool.or_false, Bool.and_eq_true] at h2
    exact ⟨h2.1, by simpa [quietAt, hj] using h2.2⟩) ops.toList 0 (Array.replicate ops.size false) e H (by simp) (by simp) (fun k ok hk hl => by
      have hks : k < ops.size := by
        rcases Nat.lt_or_ge k ops.size with h' | h'
        · exact h'
        · simp [Array.getElem?_eq_none h'] at hk
      simp [hks] at hl) (by simpa using hlex) h
  have hR' : Rel ρ im H w.drew := hR.drew
  have m : Mv ρ im H w ρ im H w.drew := ⟨hR', ImLe.refl _, Tr.drew, fun _ _ _ h => .inl h⟩
  have := wpAny_of_anyX hA hcall (n0 := n0) (ro := ro) (n := n) (Q := After ρ im H w N n0 ro ⟨.norm, e2, H2⟩) ops.size (Array.replicate ops.size false) (s := (e, H)) hR' he (hdf.mv m) (by simpa using hany)
    (fun a' w' haf => haf.mv m)
  exact this
end
end Vm
