/- Each operation of the interpreter is the model's: those that make no call. -/
import Derived.Test.YtcppjlmicdfceaaZzV7
import Derived.Test.YtcppjlmicdfceaaZzV7e
import Derived.Test.YtcppjlmicdfceaaZzX1
set_option linter.unusedVariables false
set_option linter.unusedSimpArgs false
namespace Vm
open Go Go.RowKit

section
variable {P : Program} {ρ : Rho} {im : Im} {H : Heap} {w : World} {N n : Nat} {a : Act} {e : Env}

theorem binD_run {op : BinOp} {t : TypeId} {x y d : D} {vx vy : Value} (h : binD P op t x y = some d) (hx : Rep ρ n im vx x) (hy : Rep ρ n im vy y) (ox oy : Operand) :
    ∃ v, (do eqGuard op t ox oy vx vy; binOp op t vx vy).run P w = .ok v w ∧ Rep ρ n im v d := by
  have hint : ∀ {k k' : IntKind} {a b : Int}, x = .int k a → y = .int k' b → ∃ v, (do eqGuard op t ox oy vx vy; binOp op t vx vy).run P w = .ok v w ∧ Rep ρ n im v d := by
    rintro k k' a b rfl rfl
    cases hx; cases hy
    obtain ⟨v, h1, h2⟩ := int_run (w := w) (ρ := ρ) (n := n) (im := im) h
    exact ⟨v, by simp only [Sem.run_bind, eqGuard_int, Result.andThen_ok, h1], h2⟩
  have hstr : ∀ {a b : List UInt8}, x = .str a → y = .str b → ∃ v, (do eqGuard op t ox oy vx vy; binOp op t vx vy).run P w = .ok v w ∧ Rep ρ n im v d := by
    rintro a b rfl rfl
    cases hx; cases hy
    obtain ⟨v, h1, h2⟩ := str_run (w := w) (ρ := ρ) (n := n) (im := im) h
    exact ⟨v, by simp only [Sem.run_bind, eqGuard_str, Result.andThen_ok, h1], h2⟩
  unfold binD at h
  split at h
  · exact hint rfl rfl
  · exact hstr rfl rfl
  · rename_i hn1 hn2
    have go : ∀ b, eqD P t x y = some b → (op = .eql → d = .bool b) → (op = .neq → d = .bool (!b)) → (op = .eql ∨ op = .neq) →
        ∃ v, (do eqGuard op t ox oy vx vy; binOp op t vx vy).run P w = .ok v w ∧ Rep ρ n im v d := by
      intro b hb h1 h2 h3
      obtain ⟨q1, q2⟩ := eqD_run (w := w) hb hx hy ox oy op
      have key : ∀ op', op' = op → (op' = .eql ∨ op' = .neq) → (binOp op' t vx vy).run P w = .ok (.bool (if op' = .eql then b else !b)) w := by
        intro op' e1 e2
        subst e1
        have hne1 : ∀ k k' a b, vx = .int k a → vy = .int k' b → False := fun k k' a b e1 e2 => by
          subst e1; subst e2; cases hx; cases hy; exact hn1 _ _ _ _ rfl rfl
        have hne2 : ∀ a b, vx = .string a → vy = .string b → False := fun a b e1 e2 => by
          subst e1; subst e2; cases hx; cases hy; exact hn2 _ _ rfl rfl
        rcases e2 with rfl | rfl
        · cases hx <;> first
            | (simp only [binOp, Sem.run_bind, q1, Result.andThen_ok]; rfl)
            | (cases hy <;> first
                | (exact (hne1 _ _ _ _ rfl rfl).elim)
                | (exact (hne2 _ _ rfl rfl).elim)
                | (simp only [binOp, Sem.run_bind, q1, Result.andThen_ok]; rfl))
        · cases hx <;> first
            | (simp only [binOp, Sem.run_bind, q1, Result.andThen_ok]; rfl)
            | (cases hy <;> first
                | (exact (hne1 _ _ _ _ rfl rfl).elim)
                | (exact (hne2 _ _ rfl rfl).elim)
                | (simp only [binOp, Sem.run_bind, q1, Result.andThen_ok]; rfl))
      refine ⟨_, by simp only [Sem.run_bind, q2, Result.andThen_ok]; exact key op rfl h3, ?_⟩
      rcases h3 with rfl | rfl
      · rw [h1 rfl]; simp; exact .bool _
      · rw [h2 rfl]; simp; exact .bool _
    cases hq : eqD P t x y with
    | none => simp [hq] at h; split at h <;> simp at h
    | some b =>
      simp only [hq] at h
      split at h
      · simp at h; exact go b hq (fun _ => h.symm) (fun e => by cases e) (.inl rfl)
      · simp at h; exact go b hq (fun e => by cases e) (fun _ => h.symm) (.inr rfl)
      · cases h
theorem unD_run {op : UnOp} {x d : D} {vx : Value} (h : unD op x = some d) (hx : Rep ρ n im vx x) : ∃ v, (Op.unary op vx).run P w = .ok v w ∧ Rep ρ n im v d := by
  cases x <;> simp only [unD] at h <;> try (cases h; done)
  · cases hx
    cases op <;> simp at h; subst h
    exact ⟨_, by simp [Op.unary], .bool _⟩
  · cases hx
    cases op <;> simp only [Option.some.injEq] at h <;> try (cases h; done)
    subst h
    exact ⟨_, rfl, .int _ _⟩

/-- new variables -/
theorem box_run {d : D} {v : Value} (hR : Rel ρ im H w) (hv : Rep ρ H.length im v d) (ht : ∀ l, d ≠ .tup l) (t : TypeId) :
    ∃ ρ' w', (newVar t v).run P w = .ok ⟨w.heap.size, 0, none⟩ w' ∧ Mv ρ im H w ρ' im (H ++ [.arr [d]]) w' ∧ Rep ρ' (H ++ [Ob.arr [d]]).length im (.pointer (some ⟨w.heap.size, 0, none⟩)) (.ptr H.length 0 0) := by
  have hc := hv.cells ht
  have hsz : v.cells.size = d.cells.length := by simpa using hc.length
  obtain ⟨h1, h2⟩ := hR.alloc (sz := d.cells.length) (cap := 1) (xs := [d]) (c := v.cells) (t := t) (fz := (0, 0)) (by omega) (by simp) (by simp)
    (by rw [List.take_of_length_le (by simp; omega)]; simpa [flatC] using hc) (.inr (Nat.le_refl _))
  refine ⟨_, _, ?_, ⟨h1, ImLe.refl _, h2, fun _ _ _ h => .inl h⟩, ?_⟩
  · simp [newVar, newRow]
  · have := Rep.ptr (ρ := newR ρ H.length ⟨w.heap.size, d.cells.length, 1⟩) (n := (H ++ [Ob.arr [d]]).length) (im := im) H.length 0 0 (by simp)
    simpa [newR_eq] using this

theorem fieldT_spec {t : TypeId} {f o : Nat} {u : TypeId} (h : fieldT P t f = some (o, u)) : ∃ fs x, P.underlying t = some (.struct fs) ∧ fs[f]? = some x ∧ x.offset = o ∧ x.type = u := by
  unfold fieldT at h
  split at h
  · rename_i fs hu
    cases hf : fs[f]? with
    | none => simp [hf] at h
    | some x => simp [hf] at h; exact ⟨fs, x, hu, hf, h.1, h.2⟩
  · cases h
theorem moveP_rep {p q : D} {o : Nat} {pv : Value} (h : moveP p o = some q) (hp : Rep ρ n im pv p) : ∃ b x, pv = .pointer (some ⟨b, x, none⟩) ∧ Rep ρ n im (.pointer (some ⟨b, x + o, none⟩)) q := by
  cases p <;> simp only [moveP] at h <;> try (cases h; done)
  · rename_i r i j
    simp at h; subst h
    cases hp with
    | ptr _ _ _ hr => exact ⟨_, _, rfl, by have := Rep.ptr (ρ := ρ) (im := im) r i (j + o) hr; rwa [← Nat.add_assoc] at this⟩
  · rename_i x j
    simp at h; subst h
    cases hp with
    | ept b p _ _ vs hc hl => exact ⟨_, _, rfl, by have := Rep.ept (ρ := ρ) b p x (j + o) vs hc hl; rwa [← Nat.add_assoc] at this⟩
theorem inRange_spec {i : D} {m k : Nat} (h : inRange i m = some k) : ∃ kk v, i = .int kk v ∧ 0 ≤ v ∧ v < m ∧ v.toNat = k ∧ k < m := by
  unfold inRange at h
  split at h
  · split at h
    · rename_i kk v hc
      simp at h
      exact ⟨kk, v, rfl, hc.1, hc.2, h, by omega⟩
    · cases h
  · cases h
theorem elemT_spec {t e : TypeId} (h : elemT P t = some e) : P.underlying t = some (.slice e) := by
  unfold elemT at h
  split at h
  · rename_i hu; simp at h; subst h; exact hu
  · cases h

theorem fieldAt_run {t : TypeId} {f o z : Nat} {u : TypeId} {p q : D} {pv : Value} (hf : fieldT P t f = some (o, u)) (hs : sizeT P u = some z) (h : moveP p o = some q) (hp : Rep ρ n im pv p) :
    ∃ v, (Instr.fieldAt t pv f).run P w = .ok v w ∧ Rep ρ n im v q := by
  obtain ⟨b, x, rfl, hq⟩ := moveP_rep h hp
  obtain ⟨fs, fd, hu, hfd, ho, ht⟩ := fieldT_spec hf
  obtain ⟨i, hi, hz, hz0⟩ := info_of_size hs
  refine ⟨_, ?_, hq⟩
  simp [Instr.fieldAt, run_underlying hu, hfd, Instr.sureAddr, fieldPlace, ht, run_size hs, hz0, add_plain, ho]

theorem field_run {t : TypeId} {f o : Nat} {u : TypeId} {cs : List D} {vs : List Value} {d : D} (hf : fieldT P t f = some (o, u)) (h : partD P u cs o = some d) (hc : RepL ρ n im vs cs) :
    ∃ v, (Instr.field t (.agg ⟨vs⟩) f).run P w = .ok v w ∧ Rep ρ n im v d := by
  obtain ⟨fs, fd, hu, hfd, ho, ht⟩ := fieldT_spec hf
  obtain ⟨v, hp, hv⟩ := partD_rep h hc
  refine ⟨v, ?_, hv⟩
  obtain ⟨m, ag, hs, ha, hle, h1, h2⟩ := hp.ex
  simp only [Instr.field, run_underlying hu, Sem.run_bind, Result.andThen_ok, hfd, asAgg, Sem.run_pure, part, ht, ho, run_aggT ha, Sem.run_ite]
  cases ag with
  | true => simp [run_size hs, h1 rfl, List.extract_eq_take_drop, Nat.add_sub_cancel_left]
  | false => obtain ⟨rfl, hv⟩ := h2 rfl; simp [hv]

/-! ### elements -/
theorem headSize_spec {z m : Nat} {xs : List D} (h : headSize z xs = true) (hs : ∀ x, x ∈ xs → x.cells.length = m) : xs = [] ∨ m = z := by
  cases xs with
  | nil => exact .inl rfl
  | cons x xs =>
    simp [headSize] at h
    exact .inr (by rw [← hs x (by simp)]; exact h)
/-- the values of an element of a row -/
theorem elem_rep {xs : List D} {sz k : Nat} {x : D} {vs : List Value} (hs : ∀ x, x ∈ xs → x.cells.length = sz) (hr : RepL ρ n im vs (flatC xs)) (hx : xs[k]? = some x) :
    RepL ρ n im ((vs.drop (k * sz)).take sz) x.cells := by
  have := (hr.drop (k * sz)).take sz
  rwa [flatC_get hs hx] at this
theorem row_get {vs : List Value} {b o p m : Nat} (hc : ∀ k, k < vs.length → im b (o + k) = vs[k]?) (hle : p + m ≤ vs.length) : ∀ k, k < ((vs.drop p).take m).length → im b (o + p + k) = ((vs.drop p).take m)[k]? := by
  intro k hk
  simp at hk
  rw [List.getElem?_take_of_lt (by omega), List.getElem?_drop, Nat.add_assoc, hc (p + k) (by omega)]
theorem indexAddr_run {t : TypeId} {x i d : D} {vx vi : Value} (hR : Rel ρ im H w) (h : indexAddrD P t H x i = some d) (hx : Rep ρ H.length im vx x) (hi : Rep ρ H.length im vi i) :
    ∃ v, (Instr.indexAt t vx vi).run P w = .ok v w ∧ Rep ρ H.length im v d := by
  unfold indexAddrD at h
  split at h
  · rename_i el hu
    split at h
    · rename_i f xs
      cases hr : inRange i xs.length with
      | none => simp [hr] at h
      | some k =>
        obtain ⟨kk, v, rfl, h0, h1, h2, h3⟩ := inRange_spec hr
        cases hz : sizeT P el with
        | none => simp [hr, hz] at h
        | some z =>
          cases hy : xs[k]? with
          | none => simp [hr, hz, hy] at h
          | some y =>
            simp only [hr, hz, hy, Option.bind_some] at h
            split at h
            · rename_i hcl
              simp at h; subst h
              cases hi
              cases hx with
              | sl0 a cap f hf => simp at h3
              | sl b o sz cap f _ vs hs hc hl hf hcap =>
                have hzz : sz = z := by rw [← hs y (List.mem_of_getElem? hy)]; exact hcl
                subst hzz
                have hvl : vs.length = xs.length * sz := by rw [hl.length, flatC_length hs]
                have hm : (k + 1) * sz ≤ xs.length * sz := Nat.mul_le_mul_right _ h3
                rw [Nat.add_mul, Nat.one_mul] at hm
                refine ⟨.pointer (some ⟨b, o + k * sz + 0, none⟩), ?_, .ept b (o + k * sz) y 0 _ (row_get hc (by omega)) (elem_rep hs hl hy)⟩
                simp [Instr.indexAt, asIntOf, run_underlying hu, h0, h1, run_size hz, add_plain, h2]
            · cases h
    · rename_i r o m
      cases hr : inRange i m with
      | none => simp [hr] at h
      | some k =>
        obtain ⟨kk, v, rfl, h0, h1, h2, h3⟩ := inRange_spec hr
        cases hz : sizeT P el with
        | none => simp [hr, hz] at h
        | some z =>
          simp only [hr, hz, Option.bind_some] at h
          split at h
          · rename_i hvs
            simp at h; subst h
            cases hi
            cases hx with
            | vec _ _ _ hrl hm =>
              have hsz : (ρ r).sz = z := by
                have hob := hR.obj r hrl
                unfold vecSize at hvs
                split at hvs
                · rename_i x xs hg
                  rw [hg] at hob; obtain ⟨_, _, _, _, _, h3, _⟩ := hob
                  rw [← h3 x (by simp)]; simpa using hvs
                · rename_i x xs hg
                  rw [hg] at hob; obtain ⟨_, h3, _⟩ := hob
                  rw [← h3 x (by simp)]; simpa using hvs
                · cases hvs
              refine ⟨_, ?_, .ptr r (o + k) 0 hrl⟩
              simp [Instr.indexAt, asIntOf, run_underlying hu, h0, h1, run_size hz, add_plain, h2, hsz, Nat.add_mul]
          · cases h
    · cases h
  · rename_i m el hu
    cases hr : inRange i m with
    | none => simp [hr] at h
    | some k =>
      obtain ⟨kk, v, rfl, h0, h1, h2, h3⟩ := inRange_spec hr
      cases hz : sizeT P el with
      | none => simp [hr, hz] at h
      | some z =>
        simp only [hr, hz, Option.bind_some] at h
        obtain ⟨b, p, rfl, hq⟩ := moveP_rep h hx
        cases hi
        refine ⟨_, ?_, hq⟩
        simp [Instr.indexAt, asIntOf, run_underlying hu, h0, h1, run_size hz, add_plain, h2, Instr.sureAddr]
  · cases h
theorem index_run {t : TypeId} {x i d : D} {vx vi : Value} (h : indexD P t x i = some d) (hx : Rep ρ n im vx x) (hi : Rep ρ n im vi i) :
    ∃ v, (Instr.index t vx vi).run P w = .ok v w ∧ Rep ρ n im v d := by
  unfold indexD at h
  split at h
  · rename_i m el cs hu
    cases hr : inRange i m with
    | none => simp [hr] at h
    | some k =>
      obtain ⟨kk, v, rfl, h0, h1, h2, h3⟩ := inRange_spec hr
      cases hz : sizeT P el with
      | none => simp [hr, hz] at h
      | some z =>
        simp only [hr, hz, Option.bind_some] at h
        cases hi
        cases hx with
        | agg vs _ hl =>
          obtain ⟨v', hp, hv⟩ := partD_rep h hl
          refine ⟨v', ?_, hv⟩
          obtain ⟨m', ag, hs, ha, hle, q1, q2⟩ := hp.ex
          rw [hz] at hs; simp at hs; subst hs
          simp only [Instr.index, asIntOf, run_underlying hu, Sem.run_bind, Sem.run_pure, Result.andThen_ok, Sem.run_ite, h0, h1, and_self, if_true, run_size hz, part, run_aggT ha, h2]
          cases ag with
          | true => simp [q1 rfl, List.extract_eq_take_drop, Nat.add_sub_cancel_left]
          | false => obtain ⟨rfl, hv⟩ := q2 rfl; simp at hv; simp [hv]
  · rename_i s hu
    cases hr : inRange i s.length with
    | none => simp [hr] at h
    | some k =>
      obtain ⟨kk, v, rfl, h0, h1, h2, h3⟩ := inRange_spec hr
      cases hb : s[k]? with
      | none => simp [hr, hb] at h
      | some b =>
        simp [hr, hb] at h; subst h
        cases hi
        cases hx with
        | str bs =>
          refine ⟨_, ?_, .int _ _⟩
          have hlt : k < bs.size := by have : bs.data.toList.length = bs.size := by rw [Array.length_toList]; rfl
                                       omega
          have : bs[k]? = some b := by
            rw [getElem?_pos bs k hlt]
            have e : bs.data.toList[k]? = some b := hb
            simp at e
            obtain ⟨_, e⟩ := Array.getElem?_eq_some_iff.1 e
            exact congrArg some e
          simp [Instr.index, asIntOf, run_underlying hu, h0, h2, this]
  · cases h
end
end Vm
