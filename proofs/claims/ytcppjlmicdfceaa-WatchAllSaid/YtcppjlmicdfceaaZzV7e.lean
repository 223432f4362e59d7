/- The operators in the model. -/
import Derived.Test.YtcppjlmicdfceaaZzV3t
import Derived.Laws.Strings
import Derived.Laws.StructEq
import Derived.ChangeKeysEq
set_option linter.unusedVariables false
set_option linter.unusedSimpArgs false
namespace Vm
open Go Go.RowKit

/-! ### what the program's table of types says -/
section
variable {P : Program} {ρ : Rho} {im : Im} {w : World} {n : Nat}
/-! ### operators -/
theorem eqGuard_int {op : BinOp} {t : TypeId} {ox oy : Operand} {k k' : IntKind} {x y : Int} : (eqGuard op t ox oy (.int k x) (.int k' y)).run P w = .ok () w := by
  cases op <;> simp [eqGuard]
theorem int_run {op : BinOp} {k k' : IntKind} {x y : Int} {t : TypeId} {d : D} (h : binD P op t (.int k x) (.int k' y) = some d) : ∃ v, (binOp op t (.int k x) (.int k' y)).run P w = .ok v w ∧ Rep ρ n im v d := by
  have hsh : ∀ {op : BinOp}, shiftD op k x y = some d → ∃ v, (Op.shift op k x k' y).run P w = .ok v w ∧ Rep ρ n im v d := by
    intro op h
    unfold shiftD at h
    split at h
    · cases h
    · rename_i hy
      cases op <;> simp at h <;> subst h <;> exact ⟨_, by simp [Op.shift, hy], .int _ _⟩
  cases op
  case shl => exact hsh (op := .shl) h
  case shr => exact hsh (op := .shr) h
  all_goals
    simp only [binD] at h
    split at h
    · rename_i hk
      subst hk
      simp only [intBin] at h
      first
        | (simp only [Option.some.injEq] at h; subst h; refine ⟨_, ?_, .int _ _⟩; simp only [binOp, ne_eq, not_true_eq_false, if_false]; rfl)
        | (simp only [Option.some.injEq] at h; subst h; refine ⟨_, ?_, .bool _⟩; simp only [binOp, ne_eq, not_true_eq_false, if_false]; rfl)
        | (split at h
           · cases h
           · rename_i hy; simp only [Option.some.injEq] at h; subst h; refine ⟨_, ?_, .int _ _⟩; simp only [binOp, ne_eq, not_true_eq_false, if_false, Op.intDiv, if_neg hy]; rfl)
    · cases h
theorem str_run {op : BinOp} {x y : ByteArray} {t : TypeId} {d : D} (h : binD P op t (.str x.data.toList) (.str y.data.toList) = some d) : ∃ v, (binOp op t (.string x) (.string y)).run P w = .ok v w ∧ Rep ρ n im v d := by
  cases op <;> simp only [binD, strBin] at h
  case add =>
    split at h
    · rename_i hl
      simp at h; subst h
      refine ⟨.string (x ++ y), ?_, ?_⟩
      · have : ¬ ((x.size + y.size : Nat) : Int) > IntKind.i64.max := by
          have e : IntKind.i64.max = 9223372036854775807 := by decide
          rw [e]
          have h1 : x.size = x.data.toList.length := by rw [Array.length_toList]; rfl
          have h2 : y.size = y.data.toList.length := by rw [Array.length_toList]; rfl
          rw [h1, h2]; omega
        simp only [binOp, Op.stringOp, Sem.run_ite, if_neg this, Sem.run_pure]
      · have : (x ++ y).data.toList = x.data.toList ++ y.data.toList := by
          rw [ByteArray.data_append]; simp
        rw [← this]; exact .str _
    · cases h
  all_goals first
    | (cases h; done)
    | (simp only [Option.some.injEq] at h; subst h; exact ⟨_, by simp [binOp, Op.stringOp, ByteArray.toList_eq, bytesLess], .bool _⟩)
theorem eqGuard_str {op : BinOp} {t : TypeId} {ox oy : Operand} {x y : ByteArray} : (eqGuard op t ox oy (.string x) (.string y)).run P w = .ok () w := by
  cases op <;> simp [eqGuard]

/-! ### equality -/
theorem depth_two (P : Program) : ∃ d, P.depth = d + 2 := ⟨_, rfl⟩
theorem eqS_run {t : TypeId} {k : IntKind} (hu : P.underlying t = some (.int k)) {x y : D} {vx vy : Value} {b : Bool} (hx : Rep ρ n im vx x) (hy : Rep ρ n im vy y) (hk : ∃ kx a ky c, x = .int kx a ∧ y = .int ky c) (h : eqS x y = some b) (d : Nat) :
    (Op.equalIn (d + 1) t vx vy).run P w = .ok b w := by
  obtain ⟨kx, a, ky, c, rfl, rfl⟩ := hk
  cases hx; cases hy
  simp only [eqS] at h
  split at h
  · rename_i e; subst e; simp at h; subst h
    exact run_equalIn_int w d t kx k a c hu
  · cases h
theorem eqItems_run {e : TypeId} {k : IntKind} (he : P.underlying e = some (.int k)) (d : Nat) {xs ys : List D} {vs us : List Value} {b : Bool} (hx : RepL ρ n im vs xs) (hy : RepL ρ n im us ys)
    (h : eqSs xs ys = some b) (hi : xs.all intQ = true) (hj : ys.all intQ = true) : ∀ (pre1 pre2 : List Value) (p : Nat), pre1.length = p → pre2.length = p →
    (Op.eqItems (d + 1) e 1 ⟨pre1 ++ vs⟩ ⟨pre2 ++ us⟩ (List.range' p xs.length)).run P w = .ok b w := by
  have hag : isAggT P e = some false := by simp [isAggT, he]
  induction xs generalizing ys vs us b with
  | nil =>
    intro pre1 pre2 p _ _
    cases ys with
    | nil => simp [eqSs] at h; subst h; simp [Op.eqItems]
    | cons y ys => simp [eqSs] at h
  | cons x xs ih =>
    intro pre1 pre2 p h1 h2
    cases ys with
    | nil => simp [eqSs] at h
    | cons y ys =>
      cases hx with
      | cons v _ vs _ hv1 hv hvr =>
        cases hy with
        | cons u _ us _ hu1 hu hur =>
          simp only [eqSs] at h
          cases hxy : eqS x y with
          | none => simp [hxy] at h
          | some b0 =>
            cases hr : eqSs xs ys with
            | none => simp [hxy, hr] at h
            | some b1 =>
              simp [hxy, hr] at h
              simp only [List.all_cons, Bool.and_eq_true] at hi hj
              have hint : ∃ kx a ky c, x = .int kx a ∧ y = .int ky c := by
                cases x <;> simp [intQ] at hi
                cases y <;> simp [intQ] at hj
                exact ⟨_, _, _, _, rfl, rfl⟩
              have p1 : (part e ⟨pre1 ++ v :: vs⟩ (p * 1)).run P w = .ok v w := by
                unfold part
                simp [run_aggT hag, ← h1]
              have p2 : (part e ⟨pre2 ++ u :: us⟩ (p * 1)).run P w = .ok u w := by
                unfold part
                simp [run_aggT hag, ← h2]
              have p3 := eqS_run (w := w) he hv hu hint hxy d
              simp only [List.length_cons, List.range'_succ, Op.eqItems, Sem.run_bind, p1, p2, p3, Result.andThen_ok]
              cases b0 with
              | false => simp at h; subst h; simp
              | true =>
                simp at h; subst h
                have := ih hvr hur hr hi.2 hj.2 (pre1 ++ [v]) (pre2 ++ [u]) (p + 1) (by simp [h1]) (by simp [h2])
                simpa using this
theorem eqSs_int {xs ys : List D} {b : Bool} (h : eqSs xs ys = some b) : xs.length = ys.length := by
  induction xs generalizing ys b with
  | nil => cases ys with
    | nil => rfl
    | cons y ys => simp [eqSs] at h
  | cons x xs ih => cases ys with
    | nil => simp [eqSs] at h
    | cons y ys =>
      simp only [eqSs] at h
      cases hxy : eqS x y with
      | none => simp [hxy] at h
      | some b0 =>
        cases hr : eqSs xs ys with
        | none => simp [hxy, hr] at h
        | some b1 => simp [ih hr]
theorem arrayEq_run {t e : TypeId} {m : Nat} {k : IntKind} (hu : P.underlying t = some (.array m e)) (he : P.underlying e = some (.int k)) (hs : sizeT P e = some 1) {xs ys : List D} {vs us : List Value} {b : Bool}
    (hx : RepL ρ n im vs xs) (hy : RepL ρ n im us ys) (hxl : xs.length = m) (hi : xs.all intQ = true) (hj : ys.all intQ = true) (h : eqSs xs ys = some b) (d : Nat) :
    (Op.equalIn (d + 2) t (.agg ⟨vs⟩) (.agg ⟨us⟩)).run P w = .ok b w := by
  obtain ⟨i, hi', hz, _⟩ := info_of_size hs
  rw [run_equalIn_array w (d + 1) _ _ hu hi']
  have hc : P.cellsOf e = 1 := by simp [Program.cellsOf, hi', hz]
  rw [hc, List.range_eq_range', ← hxl]
  exact eqItems_run he d hx hy h hi hj [] [] 0 rfl rfl
theorem eqGuard_op {op : BinOp} {t : TypeId} {ox oy : Operand} {x y : Value} (h1 : ∀ a b, x = .agg a → y = .agg b → P.eqGuardType P.depth t = false)
    (h2 : x = .nilIface → y = .nilIface → ∃ ms, P.underlying t = some (.interface ms) ∧ ms.isEmpty = true) : (eqGuard op t ox oy x y).run P w = .ok () w := by
  cases op <;> simp [eqGuard]
  all_goals
    split
    · rename_i e1 e2
      split
      · rfl
      · obtain ⟨ms, hu, hm⟩ := h2 rfl rfl
        have key : ∀ d, (Op.eqGuardIn (d + 1) t .nilIface .nilIface).run P w = .ok false w := fun d => by simp [Op.eqGuardIn, run_underlying hu, hm]
        have this : (Op.eqGuardIn Op.maxDepth t .nilIface .nilIface).run P w = .ok false w := key 9999
        simp only [Sem.run_ite, Sem.run_bind, this, Result.andThen_ok, Bool.false_eq_true, if_false, Sem.run_pure, ite_self]
    · simp [h1 _ _ rfl rfl]
    · rfl
set_option maxHeartbeats 4000000 in
theorem eqD_run {t : TypeId} {x y : D} {vx vy : Value} {b : Bool} (h : eqD P t x y = some b) (hx : Rep ρ n im vx x) (hy : Rep ρ n im vy y) (ox oy : Operand) (op : BinOp) :
    (Op.equal t vx vy).run P w = .ok b w ∧ (eqGuard op t ox oy vx vy).run P w = .ok () w := by
  have he : Op.equal t vx vy = Op.equalIn (9998 + 2) t vx vy := rfl
  rw [he]
  clear he
  generalize 9998 = d
  unfold eqD at h
  split at h
  case h_15 xs ys =>
    cases hx with
    | agg vs _ hvs =>
      cases hy with
      | agg us _ hus =>
        split at h
        · rename_i m e hu
          split at h
          · rename_i k hue hs
            split at h
            · rename_i hc
              refine ⟨arrayEq_run hu hue hs hvs hus hc.1 (by simpa using hc.2.2.1) (by simpa using hc.2.2.2) h d, eqGuard_op (fun _ _ _ _ => ?_) (fun h => by cases h)⟩
              obtain ⟨d, hd⟩ := depth_two P
              simp [hd, Program.eqGuardType, hu, hue]
            · cases h
          · cases h
        · cases h
  all_goals first | (cases h; done) | skip
  all_goals (split at h; rename_i hu)
  all_goals first
    | (cases h; done)
    | (cases hx; cases hy; simp only [eqS] at h; split at h <;> simp at h; subst h; rename_i hk; subst hk; exact ⟨by simp [Op.equalIn, run_underlying hu], eqGuard_op (fun _ _ h => by cases h) (fun h => by cases h)⟩)
    | (cases hx; cases hy; simp only [Option.some.injEq] at h; subst h; exact ⟨by rw [run_equalIn_string w (d + 1) t _ _ hu, ByteArray.toList_eq, ByteArray.toList_eq], eqGuard_op (fun _ _ h => by cases h) (fun h => by cases h)⟩)
    | (cases hx; cases hy; simp only [Option.some.injEq] at h; subst h; exact ⟨by simp [Op.equalIn, run_underlying hu], eqGuard_op (fun _ _ h => by cases h) (fun h => by first | (cases h; done) | (intro h; cases h; done))⟩)
    | (cases hx; cases hy; split at h
       · rename_i hm; simp only [Option.some.injEq] at h; subst h; exact ⟨by simp [Op.equalIn, run_underlying hu], eqGuard_op (fun _ _ h => by cases h) (fun _ _ => ⟨_, hu, hm⟩)⟩
       · cases h)
end
end Vm
