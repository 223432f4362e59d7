/- Texts that stand behind this claim, one after the other. -/
import Derived.Test.YticfdhffpniaoaaGreatDoorM6
/- Machines without free steps: what they are as data; whether one may be; a step. -/
section
set_option maxHeartbeats 4000000
set_option linter.unusedVariables false
set_option linter.unusedSimpArgs false
namespace Go.Proofs.W
open Go Vm Go.Proofs.Zs09

structure Dfa where
  next : List (List Int)
  rule : List Int
def rowD (r : List Int) : D := .agg (r.map (.int .i64))
def rowsD (l : List (List Int)) : D := .sl false (l.map rowD)
def dfaD (d : Dfa) : D := .agg [rowsD d.next, isD d.rule]
def tyM (d : Dfa) : Prop := ∀ r ∈ d.next, r.length = 16
theorem strip_row (r : List Int) : strip (rowD r) = some (rowD r) := by simp [rowD, strip, strip_ints]
theorem strip_rows (l : List (List Int)) : stripL (l.map rowD) = some (l.map rowD) := by
  induction l with
  | nil => rfl
  | cons q r ih => simp [stripL, ih, strip_row]
theorem strip_rowsD (l : List (List Int)) : strip (rowsD l) = some (rowsD l) := by simp [rowsD, strip, strip_rows]
theorem strip_dfa (d : Dfa) : strip (dfaD d) = some (dfaD d) := by simp [dfaD, strip, stripL, strip_rowsD, strip_is]
theorem dfa_noTup (d : Dfa) : noTup (dfaD d) = true := rfl
theorem dfa_cells (d : Dfa) : (dfaD d).cells = [.sl false (d.next.map rowD), .sl false (d.rule.map (.int .i64))] := rfl
theorem dfa_aggQ (d : Dfa) : aggQ (dfaD d) = true := rfl
theorem row_noTup (r : List Int) : noTup (rowD r) = true := rfl
theorem row_cells (r : List Int) : (rowD r).cells = r.map (.int .i64) := rfl
theorem row_aggQ (r : List Int) : aggQ (rowD r) = true := rfl
def toOk (n : Nat) (t : Int) : Bool := decide (-1 ≤ t) && decide (t < n)
def rowOk (d : Dfa) (i : Nat) : Bool := decide (-1 ≤ d.rule.getD i 0) && decide (d.rule.getD i 0 < 16) && (d.next.getD i []).all (toOk d.next.length)
def rightD (d : Dfa) : Bool := decide (1 ≤ d.next.length ∧ d.next.length ≤ 200 ∧ d.rule.length = d.next.length) && allN (rowOk d) 0 d.next.length
theorem row_get {d : Dfa} {i : Nat} (h : i < d.next.length) : (d.next.map rowD)[i]? = some (rowD d.next[i]) := by simp [h]
theorem rowOk_at {d : Dfa} {i : Nat} (h : i < d.next.length) (h2 : i < d.rule.length) : rowOk d i = (decide (-1 ≤ d.rule[i]) && decide (d.rule[i] < 16) && (d.next[i].drop 0).all (toOk d.next.length)) := by
  simp [rowOk, List.getD, h, h2]
theorem dright_ok (d : Dfa) (ht : tyM d) (hs : d.next.length ≤ 1000000) (hs2 : d.rule.length ≤ 9223372036854775807) : PureF Tryz.prog A 28 [dfaD d] (.bool (rightD d)) := by
  have a1 := dfa_noTup d
  have a2 := dfa_cells d
  have a3 := dfa_aggQ d
  refine evF_inB (n := 59) (rs := [.tmp 2]) Tryz.func28 rfl rfl rfl rfl rfl rfl ?_
  by_cases c : 1 ≤ d.next.length ∧ d.next.length ≤ 200 ∧ d.rule.length = d.next.length
  case neg =>
    have hz : rightD d = false := by simp only [rightD, c, decide_false, Bool.false_and]
    rw [hz]
    repeat' (first | refine wpB_seq ?_ | refine wpB_regionL rfl ?_ | refine wpB_block ?_ | refine wpB_skip ?_ | refine wpB_exit ?_ | refine wpB_ret ?_ | simp (maxSteps := 1000000) (dsimp := false) (disch := omega) only [go_sem, simprocAttr, *] | ((first | refine stepsB_both (fun hh => ?_) (fun hh => ?_) | refine stepsXB_both (fun hh => ?_) (fun hh => ?_)) <;> (try simp (maxSteps := 1000000) (dsimp := false) (disch := omega) only [go_sem, simprocAttr, decide_eq_true_eq, decide_eq_false_iff_not, Bool.not_eq_true, Bool.not_eq_false, Bool.not_eq_true', Bool.not_eq_false', Int.not_lt, Int.not_le, bne_iff_ne, bne_eq_false_iff_eq, beq_iff_eq, beq_eq_false_iff_ne, ne_eq, Int.ofNat_inj, Int.natCast_inj] at hh) <;> (try (exfalso; omega))) | (refine wpB_cond (by simp (maxSteps := 1000000) (dsimp := false) (disch := omega) only [go_sem, simprocAttr, *]; exact rfl) (fun hh => ?_) (fun hh => ?_) <;> (try simp (maxSteps := 1000000) (dsimp := false) (disch := omega) only [go_sem, simprocAttr, decide_eq_true_eq, decide_eq_false_iff_not, Bool.not_eq_true, Bool.not_eq_false, Bool.not_eq_true', Bool.not_eq_false', Int.not_lt, Int.not_le, bne_iff_ne, bne_eq_false_iff_eq, beq_iff_eq, beq_eq_false_iff_ne, ne_eq, Int.ofNat_inj, Int.natCast_inj] at hh) <;> (try (exfalso; omega))))
  have hz : rightD d = allN (rowOk d) 0 d.next.length := by simp only [rightD, c, and_self, decide_true, Bool.true_and]
  rw [hz]
  generalize hG : allN (rowOk d) 0 d.next.length = G
  clear hz
  obtain ⟨c1, c2, c3⟩ := c
  replace hG : Hid (allN (rowOk d) 0 d.next.length = G) := hG
  repeat' (first | refine wpB_seq ?_ | refine wpB_regionL rfl ?_ | refine wpB_block ?_ | refine wpB_skip ?_ | refine wpB_exit ?_ | refine wpB_ret ?_ | simp (maxSteps := 1000000) (dsimp := false) (disch := omega) only [go_sem, simprocAttr, *] | ((first | refine stepsB_both (fun hh => ?_) (fun hh => ?_) | refine stepsXB_both (fun hh => ?_) (fun hh => ?_)) <;> (try simp (maxSteps := 1000000) (dsimp := false) (disch := omega) only [go_sem, simprocAttr, decide_eq_true_eq, decide_eq_false_iff_not, Bool.not_eq_true, Bool.not_eq_false, Bool.not_eq_true', Bool.not_eq_false', Int.not_lt, Int.not_le, bne_iff_ne, bne_eq_false_iff_eq, beq_iff_eq, beq_eq_false_iff_ne, ne_eq, Int.ofNat_inj, Int.natCast_inj] at hh) <;> (try (exfalso; omega))) | (refine wpB_cond (by simp (maxSteps := 1000000) (dsimp := false) (disch := omega) only [go_sem, simprocAttr, *]; exact rfl) (fun hh => ?_) (fun hh => ?_) <;> (try simp (maxSteps := 1000000) (dsimp := false) (disch := omega) only [go_sem, simprocAttr, decide_eq_true_eq, decide_eq_false_iff_not, Bool.not_eq_true, Bool.not_eq_false, Bool.not_eq_true', Bool.not_eq_false', Int.not_lt, Int.not_le, bne_iff_ne, bne_eq_false_iff_eq, beq_iff_eq, beq_eq_false_iff_ne, ne_eq, Int.ofNat_inj, Int.natCast_inj] at hh) <;> (try (exfalso; omega))))
  have c4 : d.rule.length ≤ d.next.length := by omega
  replace c3 : d.next.length ≤ d.rule.length := by omega
  refine wpB_loop (fun e H => ∃ j m : Nat, j + m = d.next.length ∧ hget H 0 = .arr [dfaD d] ∧ 1 ≤ H.length ∧ e 1 = .ptr 0 0 0 ∧ e 3 = .int .i64 d.next.length ∧ e 25 = .sl false (d.next.map rowD) ∧ e 26 = .int .i64 d.next.length ∧ e 27 = .int .i64 j ∧ G = allN (rowOk d) j m) (fun e H => d.next.length - natOf (e 27)) ?_ ?_
  · exact ⟨0, d.next.length, by omega, rfl, by simp, gs, gs, gs, gs, gs, Eq.symm hG⟩
  clear hG
  rintro e H ⟨j, m, hj, h0, hl, e1, e3, e25, e26, e27, ha⟩ R hR
  by_cases hb : j < d.next.length
  case neg =>
    obtain rfl : m = 0 := by omega
    have : G = true := ha
    subst this
    clear hj ha
    repeat' (first | refine wpB_seq ?_ | refine wpB_regionL rfl ?_ | refine wpB_block ?_ | refine wpB_skip ?_ | refine wpB_exit ?_ | refine wpB_ret ?_ | simp (maxSteps := 1000000) (dsimp := false) (disch := omega) only [go_sem, simprocAttr, *] | ((first | refine stepsB_both (fun hh => ?_) (fun hh => ?_) | refine stepsXB_both (fun hh => ?_) (fun hh => ?_)) <;> (try simp (maxSteps := 1000000) (dsimp := false) (disch := omega) only [go_sem, simprocAttr, decide_eq_true_eq, decide_eq_false_iff_not, Bool.not_eq_true, Bool.not_eq_false, Bool.not_eq_true', Bool.not_eq_false', Int.not_lt, Int.not_le, bne_iff_ne, bne_eq_false_iff_eq, beq_iff_eq, beq_eq_false_iff_ne, ne_eq, Int.ofNat_inj, Int.natCast_inj] at hh) <;> (try (exfalso; omega))) | (refine wpB_cond (by simp (maxSteps := 1000000) (dsimp := false) (disch := omega) only [go_sem, simprocAttr, *]; exact rfl) (fun hh => ?_) (fun hh => ?_) <;> (try simp (maxSteps := 1000000) (dsimp := false) (disch := omega) only [go_sem, simprocAttr, decide_eq_true_eq, decide_eq_false_iff_not, Bool.not_eq_true, Bool.not_eq_false, Bool.not_eq_true', Bool.not_eq_false', Int.not_lt, Int.not_le, bne_iff_ne, bne_eq_false_iff_eq, beq_iff_eq, beq_eq_false_iff_ne, ne_eq, Int.ofNat_inj, Int.natCast_inj] at hh) <;> (try (exfalso; omega))))
  obtain ⟨m, rfl⟩ : ∃ x, m = x + 1 := ⟨m - 1, by omega⟩
  have hjr : j < d.rule.length := by omega
  have hrow := row_get hb
  have hlen := ht _ (List.getElem_mem hb)
  rw [allN, rowOk_at hb hjr] at ha
  generalize d.next[j] = row at hrow hlen ha
  generalize hru : d.rule[j] = ru at ha
  replace ha : Hid (G = ((decide (-1 ≤ ru) && decide (ru < 16) && (row.drop 0).all (toOk d.next.length)) && allN (rowOk d) (j + 1) m)) := ha
  have b1 := row_noTup row
  have b2 := row_cells row
  have b3 := row_aggQ row
  repeat' (first | refine wpB_seq ?_ | refine wpB_regionL rfl ?_ | refine wpB_block ?_ | refine wpB_skip ?_ | refine wpB_exit ?_ | refine wpB_ret ?_ | simp (maxSteps := 1000000) (dsimp := false) (disch := omega) only [go_sem, simprocAttr, *] | ((first | refine stepsB_both (fun hh => ?_) (fun hh => ?_) | refine stepsXB_both (fun hh => ?_) (fun hh => ?_)) <;> (try simp (maxSteps := 1000000) (dsimp := false) (disch := omega) only [go_sem, simprocAttr, decide_eq_true_eq, decide_eq_false_iff_not, Bool.not_eq_true, Bool.not_eq_false, Bool.not_eq_true', Bool.not_eq_false', Int.not_lt, Int.not_le, bne_iff_ne, bne_eq_false_iff_eq, beq_iff_eq, beq_eq_false_iff_ne, ne_eq, Int.ofNat_inj, Int.natCast_inj] at hh) <;> (try (exfalso; omega))) | (refine wpB_cond (by simp (maxSteps := 1000000) (dsimp := false) (disch := omega) only [go_sem, simprocAttr, *]; exact rfl) (fun hh => ?_) (fun hh => ?_) <;> (try simp (maxSteps := 1000000) (dsimp := false) (disch := omega) only [go_sem, simprocAttr, decide_eq_true_eq, decide_eq_false_iff_not, Bool.not_eq_true, Bool.not_eq_false, Bool.not_eq_true', Bool.not_eq_false', Int.not_lt, Int.not_le, bne_iff_ne, bne_eq_false_iff_eq, beq_iff_eq, beq_eq_false_iff_ne, ne_eq, Int.ofNat_inj, Int.natCast_inj] at hh) <;> (try (exfalso; omega))))
  · have : G = false := by rw [show G = _ from ha]; simp; omega
    rw [this]
  rotate_left
  · have : G = false := by rw [show G = _ from ha]; simp; omega
    rw [this]
  have ha2 : Hid (G = ((row.drop 0).all (toOk d.next.length) && allN (rowOk d) (j + 1) m)) := by
    show G = _
    rw [show G = _ from ha]
    simp [*]
  clear ha
  refine wpB_loop (fun e H => ∃ i : Nat, i ≤ 16 ∧ hget H 0 = .arr [dfaD d] ∧ 1 ≤ H.length ∧ e 1 = .ptr 0 0 0 ∧ e 3 = .int .i64 d.next.length ∧ e 25 = .sl false (d.next.map rowD) ∧ e 26 = .int .i64 d.next.length ∧ e 27 = .int .i64 j ∧ e 46 = rowD row ∧ e 47 = .int .i64 i ∧ G = ((row.drop i).all (toOk d.next.length) && allN (rowOk d) (j + 1) m)) (fun e H => 16 - natOf (e 47)) ?_ ?_
  · exact ⟨0, by omega, gs, by simp, gs, gs, gs, gs, gs, gs, gs, ha2⟩
  have k27 := e27
  clear ha2 e1 e3 e25 e26 e27 h0
  rintro e2 H2 ⟨i, hi, h0, hl2, e1, e3, e25, e26, e27, e46, e47, ha⟩ R2 hR2
  by_cases hb2 : i < 16
  case neg =>
    rw [List.drop_eq_nil_of_le (by omega)] at ha
    repeat' (first | refine wpB_seq ?_ | refine wpB_regionL rfl ?_ | refine wpB_block ?_ | refine wpB_skip ?_ | refine wpB_exit ?_ | refine wpB_ret ?_ | simp (maxSteps := 1000000) (dsimp := false) (disch := omega) only [go_sem, simprocAttr, *] | ((first | refine stepsB_both (fun hh => ?_) (fun hh => ?_) | refine stepsXB_both (fun hh => ?_) (fun hh => ?_)) <;> (try simp (maxSteps := 1000000) (dsimp := false) (disch := omega) only [go_sem, simprocAttr, decide_eq_true_eq, decide_eq_false_iff_not, Bool.not_eq_true, Bool.not_eq_false, Bool.not_eq_true', Bool.not_eq_false', Int.not_lt, Int.not_le, bne_iff_ne, bne_eq_false_iff_eq, beq_iff_eq, beq_eq_false_iff_ne, ne_eq, Int.ofNat_inj, Int.natCast_inj] at hh) <;> (try (exfalso; omega))) | (refine wpB_cond (by simp (maxSteps := 1000000) (dsimp := false) (disch := omega) only [go_sem, simprocAttr, *]; exact rfl) (fun hh => ?_) (fun hh => ?_) <;> (try simp (maxSteps := 1000000) (dsimp := false) (disch := omega) only [go_sem, simprocAttr, decide_eq_true_eq, decide_eq_false_iff_not, Bool.not_eq_true, Bool.not_eq_false, Bool.not_eq_true', Bool.not_eq_false', Int.not_lt, Int.not_le, bne_iff_ne, bne_eq_false_iff_eq, beq_iff_eq, beq_eq_false_iff_ne, ne_eq, Int.ofNat_inj, Int.natCast_inj] at hh) <;> (try (exfalso; omega))))
    refine hR _ _ ⟨j + 1, m, by omega, gs, by omega, gs, gs, gs, gs, gs, by simpa using ha⟩ ?_
    simp (maxSteps := 1000000) (dsimp := false) (disch := omega) only [go_sem, simprocAttr, *, natOf_int]
  have hil : i < row.length := by omega
  rw [allL_drop hil] at ha
  have hcell : (row.map (D.int .i64))[i * 1]? = some (.int .i64 row[i]) := by simp [hil]
  generalize row[i] = t at ha hcell
  replace ha : Hid (G = ((toOk d.next.length t && (row.drop (i + 1)).all (toOk d.next.length)) && allN (rowOk d) (j + 1) m)) := ha
  repeat' (first | refine wpB_seq ?_ | refine wpB_regionL rfl ?_ | refine wpB_block ?_ | refine wpB_skip ?_ | refine wpB_exit ?_ | refine wpB_ret ?_ | simp (maxSteps := 1000000) (dsimp := false) (disch := omega) only [go_sem, simprocAttr, *, rowD] | ((first | refine stepsB_both (fun hh => ?_) (fun hh => ?_) | refine stepsXB_both (fun hh => ?_) (fun hh => ?_)) <;> (try simp (maxSteps := 1000000) (dsimp := false) (disch := omega) only [go_sem, simprocAttr, decide_eq_true_eq, decide_eq_false_iff_not, Bool.not_eq_true, Bool.not_eq_false, Bool.not_eq_true', Bool.not_eq_false', Int.not_lt, Int.not_le, bne_iff_ne, bne_eq_false_iff_eq, beq_iff_eq, beq_eq_false_iff_ne, ne_eq, Int.ofNat_inj, Int.natCast_inj] at hh) <;> (try (exfalso; omega))) | (refine wpB_cond (by simp (maxSteps := 1000000) (dsimp := false) (disch := omega) only [go_sem, simprocAttr, *, rowD]; exact rfl) (fun hh => ?_) (fun hh => ?_) <;> (try simp (maxSteps := 1000000) (dsimp := false) (disch := omega) only [go_sem, simprocAttr, decide_eq_true_eq, decide_eq_false_iff_not, Bool.not_eq_true, Bool.not_eq_false, Bool.not_eq_true', Bool.not_eq_false', Int.not_lt, Int.not_le, bne_iff_ne, bne_eq_false_iff_eq, beq_iff_eq, beq_eq_false_iff_ne, ne_eq, Int.ofNat_inj, Int.natCast_inj] at hh) <;> (try (exfalso; omega))))
  · have : G = false := by rw [show G = _ from ha]; simp [toOk]; omega
    rw [this]
  · refine hR2 _ _ ⟨i + 1, by omega, gs, by omega, gs, gs, gs, gs, gs, gs, gs, ?_⟩ ?_
    · rw [show G = _ from ha]
      have : toOk d.next.length t = true := by simp [toOk]; omega
      rw [this]; rfl
    · simp (maxSteps := 1000000) (dsimp := false) (disch := omega) only [go_sem, simprocAttr, *, natOf_int]
  · have : G = false := by rw [show G = _ from ha]; simp [toOk]; omega
    rw [this]
/-- where a state goes -/
def nextD (d : Dfa) (at_ c : Int) : Int := if c < 0 ∨ 16 ≤ c then -1 else (d.next.getD at_.toNat []).getD c.toNat 0
theorem dnext_ok (d : Dfa) (a c : Int) (ht : tyM d) (h0 : 0 ≤ a) (h1 : a < d.next.length) (hs : d.next.length ≤ 1000000) : PureF Tryz.prog A 54 [dfaD d, .int .i64 a, .int .i64 c] (.int .i64 (nextD d a c)) := by
  have a1 := dfa_noTup d
  have a2 := dfa_cells d
  have a3 := dfa_aggQ d
  refine evF_inB (n := 20) (rs := [.tmp 6]) Tryz.func54 rfl rfl rfl rfl rfl rfl ?_
  by_cases hc : c < 0 ∨ 16 ≤ c
  · have hz : nextD d a c = -1 := by simp [nextD, hc]
    rw [hz]
    rcases hc with hc | hc
    · repeat' (first | refine wpB_seq ?_ | refine wpB_regionL rfl ?_ | refine wpB_block ?_ | refine wpB_skip ?_ | refine wpB_exit ?_ | refine wpB_ret ?_ | simp (maxSteps := 1000000) (dsimp := false) (disch := omega) only [go_sem, simprocAttr, *] | ((first | refine stepsB_both (fun hh => ?_) (fun hh => ?_) | refine stepsXB_both (fun hh => ?_) (fun hh => ?_)) <;> (try simp (maxSteps := 1000000) (dsimp := false) (disch := omega) only [go_sem, simprocAttr, decide_eq_true_eq, decide_eq_false_iff_not, Bool.not_eq_true, Bool.not_eq_false, Bool.not_eq_true', Bool.not_eq_false', Int.not_lt, Int.not_le, bne_iff_ne, bne_eq_false_iff_eq, beq_iff_eq, beq_eq_false_iff_ne, ne_eq, Int.ofNat_inj, Int.natCast_inj] at hh) <;> (try (exfalso; omega))) | (refine wpB_cond (by simp (maxSteps := 1000000) (dsimp := false) (disch := omega) only [go_sem, simprocAttr, *]; exact rfl) (fun hh => ?_) (fun hh => ?_) <;> (try simp (maxSteps := 1000000) (dsimp := false) (disch := omega) only [go_sem, simprocAttr, decide_eq_true_eq, decide_eq_false_iff_not, Bool.not_eq_true, Bool.not_eq_false, Bool.not_eq_true', Bool.not_eq_false', Int.not_lt, Int.not_le, bne_iff_ne, bne_eq_false_iff_eq, beq_iff_eq, beq_eq_false_iff_ne, ne_eq, Int.ofNat_inj, Int.natCast_inj] at hh) <;> (try (exfalso; omega))))
    · repeat' (first | refine wpB_seq ?_ | refine wpB_regionL rfl ?_ | refine wpB_block ?_ | refine wpB_skip ?_ | refine wpB_exit ?_ | refine wpB_ret ?_ | simp (maxSteps := 1000000) (dsimp := false) (disch := omega) only [go_sem, simprocAttr, *] | ((first | refine stepsB_both (fun hh => ?_) (fun hh => ?_) | refine stepsXB_both (fun hh => ?_) (fun hh => ?_)) <;> (try simp (maxSteps := 1000000) (dsimp := false) (disch := omega) only [go_sem, simprocAttr, decide_eq_true_eq, decide_eq_false_iff_not, Bool.not_eq_true, Bool.not_eq_false, Bool.not_eq_true', Bool.not_eq_false', Int.not_lt, Int.not_le, bne_iff_ne, bne_eq_false_iff_eq, beq_iff_eq, beq_eq_false_iff_ne, ne_eq, Int.ofNat_inj, Int.natCast_inj] at hh) <;> (try (exfalso; omega))) | (refine wpB_cond (by simp (maxSteps := 1000000) (dsimp := false) (disch := omega) only [go_sem, simprocAttr, *]; exact rfl) (fun hh => ?_) (fun hh => ?_) <;> (try simp (maxSteps := 1000000) (dsimp := false) (disch := omega) only [go_sem, simprocAttr, decide_eq_true_eq, decide_eq_false_iff_not, Bool.not_eq_true, Bool.not_eq_false, Bool.not_eq_true', Bool.not_eq_false', Int.not_lt, Int.not_le, bne_iff_ne, bne_eq_false_iff_eq, beq_iff_eq, beq_eq_false_iff_ne, ne_eq, Int.ofNat_inj, Int.natCast_inj] at hh) <;> (try (exfalso; omega))))
  · have hb : a.toNat < d.next.length := by omega
    have hrow := row_get hb
    have hlen := ht _ (List.getElem_mem hb)
    have hz : nextD d a c = d.next[a.toNat].getD c.toNat 0 := by unfold nextD; rw [if_neg hc]; simp [List.getD, hb]
    rw [hz]
    generalize d.next[a.toNat] = row at hrow hlen
    have hil : c.toNat < row.length := by omega
    have hcell : (row.map (D.int .i64))[c.toNat * 1]? = some (.int .i64 row[c.toNat]) := by simp [hil]
    have hg : row.getD c.toNat 0 = row[c.toNat] := by simp [List.getD, hil]
    rw [hg]
    generalize row[c.toNat] = t at hcell
    clear hz hg
    have hc1 : 0 ≤ c := by omega
    have hc2 : c < 16 := by omega
    clear hc
    have b1 := row_noTup row
    have b2 := row_cells row
    have b3 := row_aggQ row
    repeat' (first | refine wpB_seq ?_ | refine wpB_regionL rfl ?_ | refine wpB_block ?_ | refine wpB_skip ?_ | refine wpB_exit ?_ | refine wpB_ret ?_ | simp (maxSteps := 1000000) (dsimp := false) (disch := omega) only [go_sem, simprocAttr, *, rowD] | ((first | refine stepsB_both (fun hh => ?_) (fun hh => ?_) | refine stepsXB_both (fun hh => ?_) (fun hh => ?_)) <;> (try simp (maxSteps := 1000000) (dsimp := false) (disch := omega) only [go_sem, simprocAttr, decide_eq_true_eq, decide_eq_false_iff_not, Bool.not_eq_true, Bool.not_eq_false, Bool.not_eq_true', Bool.not_eq_false', Int.not_lt, Int.not_le, bne_iff_ne, bne_eq_false_iff_eq, beq_iff_eq, beq_eq_false_iff_ne, ne_eq, Int.ofNat_inj, Int.natCast_inj] at hh) <;> (try (exfalso; omega))) | (refine wpB_cond (by simp (maxSteps := 1000000) (dsimp := false) (disch := omega) only [go_sem, simprocAttr, *, rowD]; exact rfl) (fun hh => ?_) (fun hh => ?_) <;> (try simp (maxSteps := 1000000) (dsimp := false) (disch := omega) only [go_sem, simprocAttr, decide_eq_true_eq, decide_eq_false_iff_not, Bool.not_eq_true, Bool.not_eq_false, Bool.not_eq_true', Bool.not_eq_false', Int.not_lt, Int.not_le, bne_iff_ne, bne_eq_false_iff_eq, beq_iff_eq, beq_eq_false_iff_ne, ne_eq, Int.ofNat_inj, Int.natCast_inj] at hh) <;> (try (exfalso; omega))))
/-- the state behind a word -/
def runD (d : Dfa) : Int → List Int → Int
  | a, [] => a
  | a, c :: w => if nextD d a c < 0 then -1 else runD d (nextD d a c) w
theorem row_of {d : Dfa} (hr : rightD d = true) {i : Nat} (h : i < d.next.length) : -1 ≤ d.rule.getD i 0 ∧ d.rule.getD i 0 < 16 ∧ ∀ t ∈ d.next.getD i [], -1 ≤ t ∧ t < d.next.length := by
  unfold rightD at hr
  simp only [Bool.and_eq_true] at hr
  have := allN_iff.1 hr.2 i (by omega) (by omega)
  unfold rowOk at this
  simp only [Bool.and_eq_true, decide_eq_true_eq, List.all_eq_true] at this
  refine ⟨this.1.1, this.1.2, fun t ht => ?_⟩
  have := this.2 t ht
  unfold toOk at this
  simp only [Bool.and_eq_true, decide_eq_true_eq] at this
  exact this
theorem right_len {d : Dfa} (hr : rightD d = true) : 1 ≤ d.next.length ∧ d.next.length ≤ 200 ∧ d.next.length ≤ d.rule.length ∧ d.rule.length ≤ d.next.length := by
  unfold rightD at hr
  simp only [Bool.and_eq_true, decide_eq_true_eq] at hr
  omega
theorem next_in {d : Dfa} (hr : rightD d = true) (ht : tyM d) {a c : Int} (h0 : 0 ≤ a) (h1 : a < d.next.length) : -1 ≤ nextD d a c ∧ nextD d a c < d.next.length := by
  have hl := right_len hr
  unfold nextD
  split
  · omega
  · have hb : a.toNat < d.next.length := by omega
    obtain ⟨_, _, h⟩ := row_of hr hb
    have hlen := ht _ (List.getElem_mem hb)
    have e : d.next.getD a.toNat [] = d.next[a.toNat] := by simp [List.getD, hb]
    rw [e] at h ⊢
    have hil : c.toNat < d.next[a.toNat].length := by omega
    have e2 : d.next[a.toNat].getD c.toNat 0 = d.next[a.toNat][c.toNat] := by simp [List.getD, hil]
    rw [e2]
    exact h _ (List.getElem_mem hil)
theorem runD_in {d : Dfa} (hr : rightD d = true) (ht : tyM d) : ∀ {w : List Int} {a : Int}, 0 ≤ a → a < d.next.length → -1 ≤ runD d a w ∧ runD d a w < d.next.length
  | [], a, h0, h1 => by simp only [runD]; omega
  | c :: w, a, h0, h1 => by
    have := next_in hr ht (c := c) h0 h1
    simp only [runD]
    split
    · omega
    · exact runD_in hr ht (by omega) this.2
theorem stripD (d : Dfa) : stripL [dfaD d] = some [dfaD d] := strip1 (strip_dfa d)
theorem stripDii (d : Dfa) (a c : Int) : stripL [dfaD d, .int .i64 a, .int .i64 c] = some [dfaD d, .int .i64 a, .int .i64 c] := strip3 (strip_dfa d) rfl rfl
theorem stripDw (d : Dfa) (w : List Int) : stripL [dfaD d, isD w] = some [dfaD d, isD w] := strip2 (strip_dfa d) (strip_is w)
theorem stripDwi (d : Dfa) (w : List Int) (c : Int) : stripL [dfaD d, isD w, .int .i64 c] = some [dfaD d, isD w, .int .i64 c] := strip3 (strip_dfa d) (strip_is w) rfl
end Go.Proofs.W
end
/- Machines without free steps: words, and the longest match. -/
section
set_option maxHeartbeats 4000000
set_option linter.unusedVariables false
set_option linter.unusedSimpArgs false
namespace Go.Proofs.W
open Go Vm Go.Proofs.Zs09

def ruleAt (d : Dfa) (a : Int) : Int := d.rule.getD a.toNat 0
theorem rule_cell {d : Dfa} {a : Int} (h0 : 0 ≤ a) (h1 : a < d.rule.length) : (d.rule.map (D.int .i64))[a.toNat]? = some (.int .i64 (ruleAt d a)) := by
  have hb : a.toNat < d.rule.length := by omega
  simp [ruleAt, List.getD, hb]
/-- the last place at which a rule ends, and that rule: from a state, a place on -/
def lgD (d : Dfa) : Int → Int → List Int → Int × Int → Int × Int
  | _, _, [], er => er
  | a, p, c :: w, er => if nextD d a c < 0 then er else lgD d (nextD d a c) (p + 1) w (if 0 ≤ ruleAt d (nextD d a c) then (p + 1, ruleAt d (nextD d a c)) else er)
def longD (d : Dfa) (w : List Int) (f : Int) : Int × Int := if rightD d = true ∧ 0 ≤ f ∧ f ≤ w.length then lgD d 0 f (w.drop f.toNat) (-1, -1) else (-1, -1)
def pairD (x : Int × Int) : D := .tup [.int .i64 x.1, .int .i64 x.2]
theorem dlong_ok (d : Dfa) (w : List Int) (f : Int) (ht : tyM d) (hs : d.next.length ≤ 1000000) (hs2 : d.rule.length ≤ 9223372036854775807) (hw : w.length ≤ 1000000) : PureF Tryz.prog A 29 [dfaD d, isD w, .int .i64 f] (pairD (longD d w f)) := by
  have a1 := dfa_noTup d
  have a2 := dfa_cells d
  have a3 := dfa_aggQ d
  have ew : isD w = .sl false (w.map (.int .i64)) := rfl
  refine evF_inB (n := 61) (rs := [.tmp 6, .tmp 7]) Tryz.func29 rfl rfl rfl rfl rfl rfl ?_
  repeat' (first | refine wpB_seq ?_ | refine wpB_regionL rfl ?_ | refine wpB_block ?_ | refine wpB_skip ?_ | refine wpB_exit ?_ | refine wpB_ret ?_ | simp (maxSteps := 1000000) (dsimp := false) (disch := omega) only [go_sem, simprocAttr, *] | ((first | refine stepsB_both (fun hh => ?_) (fun hh => ?_) | refine stepsXB_both (fun hh => ?_) (fun hh => ?_)) <;> (try simp (maxSteps := 1000000) (dsimp := false) (disch := omega) only [go_sem, simprocAttr, decide_eq_true_eq, decide_eq_false_iff_not, Bool.not_eq_true, Bool.not_eq_false, Bool.not_eq_true', Bool.not_eq_false', Int.not_lt, Int.not_le, bne_iff_ne, bne_eq_false_iff_eq, beq_iff_eq, beq_eq_false_iff_ne, ne_eq, Int.ofNat_inj, Int.natCast_inj] at hh) <;> (try (exfalso; omega))) | (refine wpB_cond (by simp (maxSteps := 1000000) (dsimp := false) (disch := omega) only [go_sem, simprocAttr, *]; exact rfl) (fun hh => ?_) (fun hh => ?_) <;> (try simp (maxSteps := 1000000) (dsimp := false) (disch := omega) only [go_sem, simprocAttr, decide_eq_true_eq, decide_eq_false_iff_not, Bool.not_eq_true, Bool.not_eq_false, Bool.not_eq_true', Bool.not_eq_false', Int.not_lt, Int.not_le, bne_iff_ne, bne_eq_false_iff_eq, beq_iff_eq, beq_eq_false_iff_ne, ne_eq, Int.ofNat_inj, Int.natCast_inj] at hh) <;> (try (exfalso; omega))))
  refine evB_plain bo28 rfl rfl (stripD d) (dright_ok d ht hs hs2) ?_
  cases hr : rightD d with
  | false =>
    have hz : longD d w f = (-1, -1) := by unfold longD; rw [hr]; simp
    rw [hz]
    repeat' (first | refine wpB_seq ?_ | refine wpB_regionL rfl ?_ | refine wpB_block ?_ | refine wpB_skip ?_ | refine wpB_exit ?_ | refine wpB_ret ?_ | simp (maxSteps := 1000000) (dsimp := false) (disch := omega) only [go_sem, simprocAttr, *, pairD] | ((first | refine stepsB_both (fun hh => ?_) (fun hh => ?_) | refine stepsXB_both (fun hh => ?_) (fun hh => ?_)) <;> (try simp (maxSteps := 1000000) (dsimp := false) (disch := omega) only [go_sem, simprocAttr, decide_eq_true_eq, decide_eq_false_iff_not, Bool.not_eq_true, Bool.not_eq_false, Bool.not_eq_true', Bool.not_eq_false', Int.not_lt, Int.not_le, bne_iff_ne, bne_eq_false_iff_eq, beq_iff_eq, beq_eq_false_iff_ne, ne_eq, Int.ofNat_inj, Int.natCast_inj] at hh) <;> (try (exfalso; omega))) | (refine wpB_cond (by simp (maxSteps := 1000000) (dsimp := false) (disch := omega) only [go_sem, simprocAttr, *, pairD]; exact rfl) (fun hh => ?_) (fun hh => ?_) <;> (try simp (maxSteps := 1000000) (dsimp := false) (disch := omega) only [go_sem, simprocAttr, decide_eq_true_eq, decide_eq_false_iff_not, Bool.not_eq_true, Bool.not_eq_false, Bool.not_eq_true', Bool.not_eq_false', Int.not_lt, Int.not_le, bne_iff_ne, bne_eq_false_iff_eq, beq_iff_eq, beq_eq_false_iff_ne, ne_eq, Int.ofNat_inj, Int.natCast_inj] at hh) <;> (try (exfalso; omega))))
    rfl
  | true =>
    have hl := right_len hr
    by_cases hf0 : f < 0
    · have hz : longD d w f = (-1, -1) := by unfold longD; rw [if_neg (by omega)]
      rw [hz]
      repeat' (first | refine wpB_seq ?_ | refine wpB_regionL rfl ?_ | refine wpB_block ?_ | refine wpB_skip ?_ | refine wpB_exit ?_ | refine wpB_ret ?_ | simp (maxSteps := 1000000) (dsimp := false) (disch := omega) only [go_sem, simprocAttr, *, pairD] | ((first | refine stepsB_both (fun hh => ?_) (fun hh => ?_) | refine stepsXB_both (fun hh => ?_) (fun hh => ?_)) <;> (try simp (maxSteps := 1000000) (dsimp := false) (disch := omega) only [go_sem, simprocAttr, decide_eq_true_eq, decide_eq_false_iff_not, Bool.not_eq_true, Bool.not_eq_false, Bool.not_eq_true', Bool.not_eq_false', Int.not_lt, Int.not_le, bne_iff_ne, bne_eq_false_iff_eq, beq_iff_eq, beq_eq_false_iff_ne, ne_eq, Int.ofNat_inj, Int.natCast_inj] at hh) <;> (try (exfalso; omega))) | (refine wpB_cond (by simp (maxSteps := 1000000) (dsimp := false) (disch := omega) only [go_sem, simprocAttr, *, pairD]; exact rfl) (fun hh => ?_) (fun hh => ?_) <;> (try simp (maxSteps := 1000000) (dsimp := false) (disch := omega) only [go_sem, simprocAttr, decide_eq_true_eq, decide_eq_false_iff_not, Bool.not_eq_true, Bool.not_eq_false, Bool.not_eq_true', Bool.not_eq_false', Int.not_lt, Int.not_le, bne_iff_ne, bne_eq_false_iff_eq, beq_iff_eq, beq_eq_false_iff_ne, ne_eq, Int.ofNat_inj, Int.natCast_inj] at hh) <;> (try (exfalso; omega))))
      rfl
    by_cases hf1 : (w.length : Int) < f
    · have hz : longD d w f = (-1, -1) := by unfold longD; rw [if_neg (by omega)]
      rw [hz]
      repeat' (first | refine wpB_seq ?_ | refine wpB_regionL rfl ?_ | refine wpB_block ?_ | refine wpB_skip ?_ | refine wpB_exit ?_ | refine wpB_ret ?_ | simp (maxSteps := 1000000) (dsimp := false) (disch := omega) only [go_sem, simprocAttr, *, pairD] | ((first | refine stepsB_both (fun hh => ?_) (fun hh => ?_) | refine stepsXB_both (fun hh => ?_) (fun hh => ?_)) <;> (try simp (maxSteps := 1000000) (dsimp := false) (disch := omega) only [go_sem, simprocAttr, decide_eq_true_eq, decide_eq_false_iff_not, Bool.not_eq_true, Bool.not_eq_false, Bool.not_eq_true', Bool.not_eq_false', Int.not_lt, Int.not_le, bne_iff_ne, bne_eq_false_iff_eq, beq_iff_eq, beq_eq_false_iff_ne, ne_eq, Int.ofNat_inj, Int.natCast_inj] at hh) <;> (try (exfalso; omega))) | (refine wpB_cond (by simp (maxSteps := 1000000) (dsimp := false) (disch := omega) only [go_sem, simprocAttr, *, pairD]; exact rfl) (fun hh => ?_) (fun hh => ?_) <;> (try simp (maxSteps := 1000000) (dsimp := false) (disch := omega) only [go_sem, simprocAttr, decide_eq_true_eq, decide_eq_false_iff_not, Bool.not_eq_true, Bool.not_eq_false, Bool.not_eq_true', Bool.not_eq_false', Int.not_lt, Int.not_le, bne_iff_ne, bne_eq_false_iff_eq, beq_iff_eq, beq_eq_false_iff_ne, ne_eq, Int.ofNat_inj, Int.natCast_inj] at hh) <;> (try (exfalso; omega))))
      rfl
    have hz : longD d w f = lgD d 0 f (w.drop f.toNat) (-1, -1) := by unfold longD; rw [if_pos ⟨hr, by omega, by omega⟩]
    rw [hz]
    have hwl : (w.drop f.toNat).length = w.length - f.toNat := List.length_drop
    have hdr : List.drop f.toNat (List.take w.length (List.map (D.int .i64) w)) = (w.drop f.toNat).map (.int .i64) := by rw [← List.map_take, List.take_length, List.map_drop]
    have hhd := headInts w
    generalize hG : lgD d 0 f (w.drop f.toNat) (-1, -1) = G
    replace hG : Hid (G = lgD d 0 (f + ((0 : Nat) : Int)) ((w.drop f.toNat).drop 0) (-1, -1)) := by show G = _; rw [← hG]; simp
    clear hz
    generalize hu : w.drop f.toNat = u at hwl hdr hG
    have hul : u.length ≤ 1000000 := by omega
    have huf : f + u.length ≤ 1000000 := by omega
    clear hwl
    repeat' (first | refine wpB_seq ?_ | refine wpB_regionL rfl ?_ | refine wpB_block ?_ | refine wpB_skip ?_ | refine wpB_exit ?_ | refine wpB_ret ?_ | simp (maxSteps := 1000000) (dsimp := false) (disch := omega) only [go_sem, simprocAttr, *] | ((first | refine stepsB_both (fun hh => ?_) (fun hh => ?_) | refine stepsXB_both (fun hh => ?_) (fun hh => ?_)) <;> (try simp (maxSteps := 1000000) (dsimp := false) (disch := omega) only [go_sem, simprocAttr, decide_eq_true_eq, decide_eq_false_iff_not, Bool.not_eq_true, Bool.not_eq_false, Bool.not_eq_true', Bool.not_eq_false', Int.not_lt, Int.not_le, bne_iff_ne, bne_eq_false_iff_eq, beq_iff_eq, beq_eq_false_iff_ne, ne_eq, Int.ofNat_inj, Int.natCast_inj] at hh) <;> (try (exfalso; omega))) | (refine wpB_cond (by simp (maxSteps := 1000000) (dsimp := false) (disch := omega) only [go_sem, simprocAttr, *]; exact rfl) (fun hh => ?_) (fun hh => ?_) <;> (try simp (maxSteps := 1000000) (dsimp := false) (disch := omega) only [go_sem, simprocAttr, decide_eq_true_eq, decide_eq_false_iff_not, Bool.not_eq_true, Bool.not_eq_false, Bool.not_eq_true', Bool.not_eq_false', Int.not_lt, Int.not_le, bne_iff_ne, bne_eq_false_iff_eq, beq_iff_eq, beq_eq_false_iff_ne, ne_eq, Int.ofNat_inj, Int.natCast_inj] at hh) <;> (try (exfalso; omega))))
    refine wpB_loop (fun e H => ∃ (j : Nat) (a x y : Int), j ≤ u.length ∧ hget H 0 = .arr [dfaD d] ∧ e 2 = .int .i64 f ∧ e 3 = .ptr 0 0 0 ∧ e 8 = .int .i64 x ∧ e 9 = .int .i64 y ∧ e 10 = .int .i64 a ∧ e 30 = .sl false (u.map (.int .i64)) ∧ e 31 = .int .i64 u.length ∧ e 32 = .int .i64 j ∧ 0 ≤ a ∧ a < d.next.length ∧ G = lgD d a (f + j) (u.drop j) (x, y)) (fun e H => u.length - natOf (e 32)) ?_ ?_
    · exact ⟨0, 0, -1, -1, by omega, rfl, gs, gs, gs, gs, gs, gs, gs, gs, by omega, by omega, hG⟩
    clear hG
    rintro e H ⟨j, a, x, y, hj, h0, e2, e3, e8, e9, e10, e30, e31, e32, ha0, ha1, ha⟩ R hR
    by_cases hb : j < u.length
    case neg =>
      rw [List.drop_eq_nil_of_le (by omega)] at ha
      have : G = (x, y) := ha
      subst this
      clear ha
      repeat' (first | refine wpB_seq ?_ | refine wpB_regionL rfl ?_ | refine wpB_block ?_ | refine wpB_skip ?_ | refine wpB_exit ?_ | refine wpB_ret ?_ | simp (maxSteps := 1000000) (dsimp := false) (disch := omega) only [go_sem, simprocAttr, *, pairD] | ((first | refine stepsB_both (fun hh => ?_) (fun hh => ?_) | refine stepsXB_both (fun hh => ?_) (fun hh => ?_)) <;> (try simp (maxSteps := 1000000) (dsimp := false) (disch := omega) only [go_sem, simprocAttr, decide_eq_true_eq, decide_eq_false_iff_not, Bool.not_eq_true, Bool.not_eq_false, Bool.not_eq_true', Bool.not_eq_false', Int.not_lt, Int.not_le, bne_iff_ne, bne_eq_false_iff_eq, beq_iff_eq, beq_eq_false_iff_ne, ne_eq, Int.ofNat_inj, Int.natCast_inj] at hh) <;> (try (exfalso; omega))) | (refine wpB_cond (by simp (maxSteps := 1000000) (dsimp := false) (disch := omega) only [go_sem, simprocAttr, *, pairD]; exact rfl) (fun hh => ?_) (fun hh => ?_) <;> (try simp (maxSteps := 1000000) (dsimp := false) (disch := omega) only [go_sem, simprocAttr, decide_eq_true_eq, decide_eq_false_iff_not, Bool.not_eq_true, Bool.not_eq_false, Bool.not_eq_true', Bool.not_eq_false', Int.not_lt, Int.not_le, bne_iff_ne, bne_eq_false_iff_eq, beq_iff_eq, beq_eq_false_iff_ne, ne_eq, Int.ofNat_inj, Int.natCast_inj] at hh) <;> (try (exfalso; omega))))
      rfl
    have hd : u.drop j = u[j] :: u.drop (j + 1) := List.drop_eq_getElem_cons hb
    rw [hd, lgD] at ha
    have hcell : (u.map (D.int .i64))[j]? = some (.int .i64 u[j]) := by simp [hb]
    generalize u[j] = c at ha hcell
    have hn := next_in hr ht (c := c) ha0 ha1
    replace ha : Hid (G = if nextD d a c < 0 then (x, y) else lgD d (nextD d a c) (f + j + 1) (u.drop (j + 1)) (if 0 ≤ ruleAt d (nextD d a c) then (f + j + 1, ruleAt d (nextD d a c)) else (x, y))) := ha
    repeat' (first | refine wpB_seq ?_ | refine wpB_regionL rfl ?_ | refine wpB_block ?_ | refine wpB_skip ?_ | refine wpB_exit ?_ | refine wpB_ret ?_ | simp (maxSteps := 1000000) (dsimp := false) (disch := omega) only [go_sem, simprocAttr, *] | ((first | refine stepsB_both (fun hh => ?_) (fun hh => ?_) | refine stepsXB_both (fun hh => ?_) (fun hh => ?_)) <;> (try simp (maxSteps := 1000000) (dsimp := false) (disch := omega) only [go_sem, simprocAttr, decide_eq_true_eq, decide_eq_false_iff_not, Bool.not_eq_true, Bool.not_eq_false, Bool.not_eq_true', Bool.not_eq_false', Int.not_lt, Int.not_le, bne_iff_ne, bne_eq_false_iff_eq, beq_iff_eq, beq_eq_false_iff_ne, ne_eq, Int.ofNat_inj, Int.natCast_inj] at hh) <;> (try (exfalso; omega))) | (refine wpB_cond (by simp (maxSteps := 1000000) (dsimp := false) (disch := omega) only [go_sem, simprocAttr, *]; exact rfl) (fun hh => ?_) (fun hh => ?_) <;> (try simp (maxSteps := 1000000) (dsimp := false) (disch := omega) only [go_sem, simprocAttr, decide_eq_true_eq, decide_eq_false_iff_not, Bool.not_eq_true, Bool.not_eq_false, Bool.not_eq_true', Bool.not_eq_false', Int.not_lt, Int.not_le, bne_iff_ne, bne_eq_false_iff_eq, beq_iff_eq, beq_eq_false_iff_ne, ne_eq, Int.ofNat_inj, Int.natCast_inj] at hh) <;> (try (exfalso; omega))))
    refine evB_plain bo54 rfl rfl (stripDii d a c) (dnext_ok d a c ht ha0 ha1 hs) ?_
    generalize nextD d a c = t at ha hn
    by_cases hc : t < 0
    · have : G = (x, y) := by rw [show G = _ from ha, if_pos hc]
      subst this
      clear ha
      repeat' (first | refine wpB_seq ?_ | refine wpB_regionL rfl ?_ | refine wpB_block ?_ | refine wpB_skip ?_ | refine wpB_exit ?_ | refine wpB_ret ?_ | simp (maxSteps := 1000000) (dsimp := false) (disch := omega) only [go_sem, simprocAttr, *, pairD] | ((first | refine stepsB_both (fun hh => ?_) (fun hh => ?_) | refine stepsXB_both (fun hh => ?_) (fun hh => ?_)) <;> (try simp (maxSteps := 1000000) (dsimp := false) (disch := omega) only [go_sem, simprocAttr, decide_eq_true_eq, decide_eq_false_iff_not, Bool.not_eq_true, Bool.not_eq_false, Bool.not_eq_true', Bool.not_eq_false', Int.not_lt, Int.not_le, bne_iff_ne, bne_eq_false_iff_eq, beq_iff_eq, beq_eq_false_iff_ne, ne_eq, Int.ofNat_inj, Int.natCast_inj] at hh) <;> (try (exfalso; omega))) | (refine wpB_cond (by simp (maxSteps := 1000000) (dsimp := false) (disch := omega) only [go_sem, simprocAttr, *, pairD]; exact rfl) (fun hh => ?_) (fun hh => ?_) <;> (try simp (maxSteps := 1000000) (dsimp := false) (disch := omega) only [go_sem, simprocAttr, decide_eq_true_eq, decide_eq_false_iff_not, Bool.not_eq_true, Bool.not_eq_false, Bool.not_eq_true', Bool.not_eq_false', Int.not_lt, Int.not_le, bne_iff_ne, bne_eq_false_iff_eq, beq_iff_eq, beq_eq_false_iff_ne, ne_eq, Int.ofNat_inj, Int.natCast_inj] at hh) <;> (try (exfalso; omega))))
      rfl
    have hcr := rule_cell (d := d) (a := t) (by omega) (by omega)
    have hbd : -1 ≤ ruleAt d t := by
      have hb2 : t.toNat < d.next.length := by omega
      exact (row_of hr hb2).1
    generalize ruleAt d t = q at ha hcr hbd
    repeat' (first | refine wpB_seq ?_ | refine wpB_regionL rfl ?_ | refine wpB_block ?_ | refine wpB_skip ?_ | refine wpB_exit ?_ | refine wpB_ret ?_ | simp (maxSteps := 1000000) (dsimp := false) (disch := omega) only [go_sem, simprocAttr, *] | ((first | refine stepsB_both (fun hh => ?_) (fun hh => ?_) | refine stepsXB_both (fun hh => ?_) (fun hh => ?_)) <;> (try simp (maxSteps := 1000000) (dsimp := false) (disch := omega) only [go_sem, simprocAttr, decide_eq_true_eq, decide_eq_false_iff_not, Bool.not_eq_true, Bool.not_eq_false, Bool.not_eq_true', Bool.not_eq_false', Int.not_lt, Int.not_le, bne_iff_ne, bne_eq_false_iff_eq, beq_iff_eq, beq_eq_false_iff_ne, ne_eq, Int.ofNat_inj, Int.natCast_inj] at hh) <;> (try (exfalso; omega))) | (refine wpB_cond (by simp (maxSteps := 1000000) (dsimp := false) (disch := omega) only [go_sem, simprocAttr, *]; exact rfl) (fun hh => ?_) (fun hh => ?_) <;> (try simp (maxSteps := 1000000) (dsimp := false) (disch := omega) only [go_sem, simprocAttr, decide_eq_true_eq, decide_eq_false_iff_not, Bool.not_eq_true, Bool.not_eq_false, Bool.not_eq_true', Bool.not_eq_false', Int.not_lt, Int.not_le, bne_iff_ne, bne_eq_false_iff_eq, beq_iff_eq, beq_eq_false_iff_ne, ne_eq, Int.ofNat_inj, Int.natCast_inj] at hh) <;> (try (exfalso; omega))))
    · refine wpB_regionXL (prs := []) (by kernel_rfl) rfl (by kernel_rfl) ?_; simp (maxSteps := 1000000) (dsimp := false) (disch := omega) only [go_sem, simprocAttr, *]
      repeat' (first | refine wpB_seq ?_ | refine wpB_regionL rfl ?_ | refine wpB_block ?_ | refine wpB_skip ?_ | refine wpB_exit ?_ | refine wpB_ret ?_ | simp (maxSteps := 1000000) (dsimp := false) (disch := omega) only [go_sem, simprocAttr, *] | ((first | refine stepsB_both (fun hh => ?_) (fun hh => ?_) | refine stepsXB_both (fun hh => ?_) (fun hh => ?_)) <;> (try simp (maxSteps := 1000000) (dsimp := false) (disch := omega) only [go_sem, simprocAttr, decide_eq_true_eq, decide_eq_false_iff_not, Bool.not_eq_true, Bool.not_eq_false, Bool.not_eq_true', Bool.not_eq_false', Int.not_lt, Int.not_le, bne_iff_ne, bne_eq_false_iff_eq, beq_iff_eq, beq_eq_false_iff_ne, ne_eq, Int.ofNat_inj, Int.natCast_inj] at hh) <;> (try (exfalso; omega))) | (refine wpB_cond (by simp (maxSteps := 1000000) (dsimp := false) (disch := omega) only [go_sem, simprocAttr, *]; exact rfl) (fun hh => ?_) (fun hh => ?_) <;> (try simp (maxSteps := 1000000) (dsimp := false) (disch := omega) only [go_sem, simprocAttr, decide_eq_true_eq, decide_eq_false_iff_not, Bool.not_eq_true, Bool.not_eq_false, Bool.not_eq_true', Bool.not_eq_false', Int.not_lt, Int.not_le, bne_iff_ne, bne_eq_false_iff_eq, beq_iff_eq, beq_eq_false_iff_ne, ne_eq, Int.ofNat_inj, Int.natCast_inj] at hh) <;> (try (exfalso; omega))))
      refine hR _ _ ⟨j + 1, t, f + j + 1, q, by omega, gs, gs, gs, gs, gs, gs, gs, gs, gs, by omega, by omega, ?_⟩ ?_
      · rw [show G = _ from ha, if_neg hc, if_pos (by omega)]
        congr 1; omega
      · simp (maxSteps := 1000000) (dsimp := false) (disch := omega) only [go_sem, simprocAttr, *, natOf_int]
    · refine hR _ _ ⟨j + 1, t, x, y, by omega, gs, gs, gs, gs, gs, gs, gs, gs, gs, by omega, by omega, ?_⟩ ?_
      · rw [show G = _ from ha, if_neg hc, if_neg (by omega)]
        congr 1; omega
      · simp (maxSteps := 1000000) (dsimp := false) (disch := omega) only [go_sem, simprocAttr, *, natOf_int]
end Go.Proofs.W
end
/- The document's functions on machines without free steps. -/
section
set_option maxHeartbeats 4000000
set_option linter.unusedVariables false
set_option linter.unusedSimpArgs false
namespace Go.Proofs.W
open Go Vm Go.Proofs.Zs09

theorem rright_ok (d : Dfa) (ht : tyM d) (hs : d.next.length ≤ 1000000) (hs2 : d.rule.length ≤ 9223372036854775807) : PureF Tryz.prog A 10 [dfaD d] (.bool (rightD d)) := by
  have a1 := dfa_noTup d
  have a2 := dfa_cells d
  have a3 := dfa_aggQ d
  refine evF_inB (n := 64) (rs := [.tmp 2]) Tryz.func10 rfl rfl rfl rfl rfl rfl ?_
  by_cases c : 1 ≤ d.next.length ∧ d.next.length ≤ 200 ∧ d.rule.length = d.next.length
  case neg =>
    have hz : rightD d = false := by simp only [rightD, c, decide_false, Bool.false_and]
    rw [hz]
    repeat' (first | refine wpB_seq ?_ | refine wpB_regionL rfl ?_ | refine wpB_block ?_ | refine wpB_skip ?_ | refine wpB_exit ?_ | refine wpB_ret ?_ | simp (maxSteps := 1000000) (dsimp := false) (disch := omega) only [go_sem, simprocAttr, *] | ((first | refine stepsB_both (fun hh => ?_) (fun hh => ?_) | refine stepsXB_both (fun hh => ?_) (fun hh => ?_)) <;> (try simp (maxSteps := 1000000) (dsimp := false) (disch := omega) only [go_sem, simprocAttr, decide_eq_true_eq, decide_eq_false_iff_not, Bool.not_eq_true, Bool.not_eq_false, Bool.not_eq_true', Bool.not_eq_false', Int.not_lt, Int.not_le, bne_iff_ne, bne_eq_false_iff_eq, beq_iff_eq, beq_eq_false_iff_ne, ne_eq, Int.ofNat_inj, Int.natCast_inj] at hh) <;> (try (exfalso; omega))) | (refine wpB_cond (by simp (maxSteps := 1000000) (dsimp := false) (disch := omega) only [go_sem, simprocAttr, *]; exact rfl) (fun hh => ?_) (fun hh => ?_) <;> (try simp (maxSteps := 1000000) (dsimp := false) (disch := omega) only [go_sem, simprocAttr, decide_eq_true_eq, decide_eq_false_iff_not, Bool.not_eq_true, Bool.not_eq_false, Bool.not_eq_true', Bool.not_eq_false', Int.not_lt, Int.not_le, bne_iff_ne, bne_eq_false_iff_eq, beq_iff_eq, beq_eq_false_iff_ne, ne_eq, Int.ofNat_inj, Int.natCast_inj] at hh) <;> (try (exfalso; omega))))
  have hz : rightD d = allN (rowOk d) 0 d.next.length := by simp only [rightD, c, and_self, decide_true, Bool.true_and]
  rw [hz]
  generalize hG : allN (rowOk d) 0 d.next.length = G
  clear hz
  obtain ⟨c1, c2, c3⟩ := c
  replace hG : Hid (allN (rowOk d) 0 d.next.length = G) := hG
  repeat' (first | refine wpB_seq ?_ | refine wpB_regionL rfl ?_ | refine wpB_block ?_ | refine wpB_skip ?_ | refine wpB_exit ?_ | refine wpB_ret ?_ | simp (maxSteps := 1000000) (dsimp := false) (disch := omega) only [go_sem, simprocAttr, *] | ((first | refine stepsB_both (fun hh => ?_) (fun hh => ?_) | refine stepsXB_both (fun hh => ?_) (fun hh => ?_)) <;> (try simp (maxSteps := 1000000) (dsimp := false) (disch := omega) only [go_sem, simprocAttr, decide_eq_true_eq, decide_eq_false_iff_not, Bool.not_eq_true, Bool.not_eq_false, Bool.not_eq_true', Bool.not_eq_false', Int.not_lt, Int.not_le, bne_iff_ne, bne_eq_false_iff_eq, beq_iff_eq, beq_eq_false_iff_ne, ne_eq, Int.ofNat_inj, Int.natCast_inj] at hh) <;> (try (exfalso; omega))) | (refine wpB_cond (by simp (maxSteps := 1000000) (dsimp := false) (disch := omega) only [go_sem, simprocAttr, *]; exact rfl) (fun hh => ?_) (fun hh => ?_) <;> (try simp (maxSteps := 1000000) (dsimp := false) (disch := omega) only [go_sem, simprocAttr, decide_eq_true_eq, decide_eq_false_iff_not, Bool.not_eq_true, Bool.not_eq_false, Bool.not_eq_true', Bool.not_eq_false', Int.not_lt, Int.not_le, bne_iff_ne, bne_eq_false_iff_eq, beq_iff_eq, beq_eq_false_iff_ne, ne_eq, Int.ofNat_inj, Int.natCast_inj] at hh) <;> (try (exfalso; omega))))
  have c4 : d.rule.length ≤ d.next.length := by omega
  replace c3 : d.next.length ≤ d.rule.length := by omega
  generalize hN : d.rule.length = n
  have n1 : n ≤ d.next.length := by omega
  have n2 : d.next.length ≤ n := by omega
  have hnn : (n : Int) = d.next.length := by omega
  refine wpB_loop (fun e H => ∃ j m : Nat, j + m = d.next.length ∧ hget H 0 = .arr [dfaD d] ∧ e 1 = .ptr 0 0 0 ∧ e 3 = .int .i64 n ∧ e 4 = .int .i64 j ∧ G = allN (rowOk d) j m) (fun e H => d.next.length - natOf (e 4)) ?_ ?_
  · exact ⟨0, d.next.length, by omega, rfl, gs, gs, gs, Eq.symm hG⟩
  clear hG
  rintro e H ⟨j, m, hj, h0, e1, e3, e4, ha⟩ R hR
  by_cases hb : j < d.next.length
  case neg =>
    obtain rfl : m = 0 := by omega
    have : G = true := ha
    subst this
    clear hj ha
    repeat' (first | refine wpB_seq ?_ | refine wpB_regionL rfl ?_ | refine wpB_block ?_ | refine wpB_skip ?_ | refine wpB_exit ?_ | refine wpB_ret ?_ | simp (maxSteps := 1000000) (dsimp := false) (disch := omega) only [go_sem, simprocAttr, *] | ((first | refine stepsB_both (fun hh => ?_) (fun hh => ?_) | refine stepsXB_both (fun hh => ?_) (fun hh => ?_)) <;> (try simp (maxSteps := 1000000) (dsimp := false) (disch := omega) only [go_sem, simprocAttr, decide_eq_true_eq, decide_eq_false_iff_not, Bool.not_eq_true, Bool.not_eq_false, Bool.not_eq_true', Bool.not_eq_false', Int.not_lt, Int.not_le, bne_iff_ne, bne_eq_false_iff_eq, beq_iff_eq, beq_eq_false_iff_ne, ne_eq, Int.ofNat_inj, Int.natCast_inj] at hh) <;> (try (exfalso; omega))) | (refine wpB_cond (by simp (maxSteps := 1000000) (dsimp := false) (disch := omega) only [go_sem, simprocAttr, *]; exact rfl) (fun hh => ?_) (fun hh => ?_) <;> (try simp (maxSteps := 1000000) (dsimp := false) (disch := omega) only [go_sem, simprocAttr, decide_eq_true_eq, decide_eq_false_iff_not, Bool.not_eq_true, Bool.not_eq_false, Bool.not_eq_true', Bool.not_eq_false', Int.not_lt, Int.not_le, bne_iff_ne, bne_eq_false_iff_eq, beq_iff_eq, beq_eq_false_iff_ne, ne_eq, Int.ofNat_inj, Int.natCast_inj] at hh) <;> (try (exfalso; omega))))
  obtain ⟨m, rfl⟩ : ∃ x, m = x + 1 := ⟨m - 1, by omega⟩
  have hjr : j < d.rule.length := by omega
  have hrow := row_get hb
  have hlen := ht _ (List.getElem_mem hb)
  rw [allN, rowOk_at hb hjr] at ha
  generalize d.next[j] = row at hrow hlen ha
  generalize hru : d.rule[j] = ru at ha
  replace ha : Hid (G = ((decide (-1 ≤ ru) && decide (ru < 16) && (row.drop 0).all (toOk d.next.length)) && allN (rowOk d) (j + 1) m)) := ha
  have b1 := row_noTup row
  have b2 := row_cells row
  have b3 := row_aggQ row
  clear hN hnn
  repeat' (first | refine wpB_seq ?_ | refine wpB_regionL rfl ?_ | refine wpB_block ?_ | refine wpB_skip ?_ | refine wpB_exit ?_ | refine wpB_ret ?_ | simp (maxSteps := 1000000) (dsimp := false) (disch := omega) only [go_sem, simprocAttr, *] | ((first | refine stepsB_both (fun hh => ?_) (fun hh => ?_) | refine stepsXB_both (fun hh => ?_) (fun hh => ?_)) <;> (try simp (maxSteps := 1000000) (dsimp := false) (disch := omega) only [go_sem, simprocAttr, decide_eq_true_eq, decide_eq_false_iff_not, Bool.not_eq_true, Bool.not_eq_false, Bool.not_eq_true', Bool.not_eq_false', Int.not_lt, Int.not_le, bne_iff_ne, bne_eq_false_iff_eq, beq_iff_eq, beq_eq_false_iff_ne, ne_eq, Int.ofNat_inj, Int.natCast_inj] at hh) <;> (try (exfalso; omega))) | (refine wpB_cond (by simp (maxSteps := 1000000) (dsimp := false) (disch := omega) only [go_sem, simprocAttr, *]; exact rfl) (fun hh => ?_) (fun hh => ?_) <;> (try simp (maxSteps := 1000000) (dsimp := false) (disch := omega) only [go_sem, simprocAttr, decide_eq_true_eq, decide_eq_false_iff_not, Bool.not_eq_true, Bool.not_eq_false, Bool.not_eq_true', Bool.not_eq_false', Int.not_lt, Int.not_le, bne_iff_ne, bne_eq_false_iff_eq, beq_iff_eq, beq_eq_false_iff_ne, ne_eq, Int.ofNat_inj, Int.natCast_inj] at hh) <;> (try (exfalso; omega))))
  · have : G = false := by rw [show G = _ from ha]; simp; omega
    rw [this]
  rotate_left
  · have : G = false := by rw [show G = _ from ha]; simp; omega
    rw [this]
  have ha2 : Hid (G = ((row.drop 0).all (toOk d.next.length) && allN (rowOk d) (j + 1) m)) := by
    show G = _
    rw [show G = _ from ha]
    have h1 : decide (-1 ≤ ru) = true := by simp; omega
    have h2 : decide (ru < 16) = true := by simp; omega
    rw [h1, h2]; simp
  clear ha
  refine wpB_loop (fun e H => ∃ i : Nat, i ≤ 16 ∧ hget H 0 = .arr [dfaD d] ∧ e 1 = .ptr 0 0 0 ∧ e 3 = .int .i64 n ∧ e 4 = .int .i64 j ∧ e 5 = .int .i64 i ∧ G = ((row.drop i).all (toOk d.next.length) && allN (rowOk d) (j + 1) m)) (fun e H => 16 - natOf (e 5)) ?_ ?_
  · exact ⟨0, by omega, gs, gs, gs, gs, gs, ha2⟩
  have k4 := e4
  clear ha2 e1 e3 e4 h0
  rintro e2 H2 ⟨i, hi, h0, e1, e3, e4, e5, ha⟩ R2 hR2
  by_cases hb2 : i < 16
  case neg =>
    rw [List.drop_eq_nil_of_le (by omega)] at ha
    repeat' (first | refine wpB_seq ?_ | refine wpB_regionL rfl ?_ | refine wpB_block ?_ | refine wpB_skip ?_ | refine wpB_exit ?_ | refine wpB_ret ?_ | simp (maxSteps := 1000000) (dsimp := false) (disch := omega) only [go_sem, simprocAttr, *] | ((first | refine stepsB_both (fun hh => ?_) (fun hh => ?_) | refine stepsXB_both (fun hh => ?_) (fun hh => ?_)) <;> (try simp (maxSteps := 1000000) (dsimp := false) (disch := omega) only [go_sem, simprocAttr, decide_eq_true_eq, decide_eq_false_iff_not, Bool.not_eq_true, Bool.not_eq_false, Bool.not_eq_true', Bool.not_eq_false', Int.not_lt, Int.not_le, bne_iff_ne, bne_eq_false_iff_eq, beq_iff_eq, beq_eq_false_iff_ne, ne_eq, Int.ofNat_inj, Int.natCast_inj] at hh) <;> (try (exfalso; omega))) | (refine wpB_cond (by simp (maxSteps := 1000000) (dsimp := false) (disch := omega) only [go_sem, simprocAttr, *]; exact rfl) (fun hh => ?_) (fun hh => ?_) <;> (try simp (maxSteps := 1000000) (dsimp := false) (disch := omega) only [go_sem, simprocAttr, decide_eq_true_eq, decide_eq_false_iff_not, Bool.not_eq_true, Bool.not_eq_false, Bool.not_eq_true', Bool.not_eq_false', Int.not_lt, Int.not_le, bne_iff_ne, bne_eq_false_iff_eq, beq_iff_eq, beq_eq_false_iff_ne, ne_eq, Int.ofNat_inj, Int.natCast_inj] at hh) <;> (try (exfalso; omega))))
    refine hR _ _ ⟨j + 1, m, by omega, gs, gs, gs, gs, by simpa using ha⟩ ?_
    simp (maxSteps := 1000000) (dsimp := false) (disch := omega) only [go_sem, simprocAttr, *, natOf_int]
  have hil : i < row.length := by omega
  rw [allL_drop hil] at ha
  have hcell : (row.map (D.int .i64))[i * 1]? = some (.int .i64 row[i]) := by simp [hil]
  generalize row[i] = t at ha hcell
  replace ha : Hid (G = ((toOk d.next.length t && (row.drop (i + 1)).all (toOk d.next.length)) && allN (rowOk d) (j + 1) m)) := ha
  repeat' (first | refine wpB_seq ?_ | refine wpB_regionL rfl ?_ | refine wpB_block ?_ | refine wpB_skip ?_ | refine wpB_exit ?_ | refine wpB_ret ?_ | simp (maxSteps := 1000000) (dsimp := false) (disch := omega) only [go_sem, simprocAttr, *, rowD] | ((first | refine stepsB_both (fun hh => ?_) (fun hh => ?_) | refine stepsXB_both (fun hh => ?_) (fun hh => ?_)) <;> (try simp (maxSteps := 1000000) (dsimp := false) (disch := omega) only [go_sem, simprocAttr, decide_eq_true_eq, decide_eq_false_iff_not, Bool.not_eq_true, Bool.not_eq_false, Bool.not_eq_true', Bool.not_eq_false', Int.not_lt, Int.not_le, bne_iff_ne, bne_eq_false_iff_eq, beq_iff_eq, beq_eq_false_iff_ne, ne_eq, Int.ofNat_inj, Int.natCast_inj] at hh) <;> (try (exfalso; omega))) | (refine wpB_cond (by simp (maxSteps := 1000000) (dsimp := false) (disch := omega) only [go_sem, simprocAttr, *, rowD]; exact rfl) (fun hh => ?_) (fun hh => ?_) <;> (try simp (maxSteps := 1000000) (dsimp := false) (disch := omega) only [go_sem, simprocAttr, decide_eq_true_eq, decide_eq_false_iff_not, Bool.not_eq_true, Bool.not_eq_false, Bool.not_eq_true', Bool.not_eq_false', Int.not_lt, Int.not_le, bne_iff_ne, bne_eq_false_iff_eq, beq_iff_eq, beq_eq_false_iff_ne, ne_eq, Int.ofNat_inj, Int.natCast_inj] at hh) <;> (try (exfalso; omega))))
  · have : G = false := by rw [show G = _ from ha]; simp [toOk]; omega
    rw [this]
  · refine hR2 _ _ ⟨i + 1, by omega, gs, gs, gs, gs, gs, ?_⟩ ?_
    · rw [show G = _ from ha]
      have : toOk d.next.length t = true := by simp [toOk]; omega
      rw [this]; rfl
    · simp (maxSteps := 1000000) (dsimp := false) (disch := omega) only [go_sem, simprocAttr, *, natOf_int]
  · have : G = false := by rw [show G = _ from ha]; simp [toOk]; omega
    rw [this]
theorem rrun_ok (d : Dfa) (w : List Int) (ht : tyM d) (hr : rightD d = true) (hw : w.length ≤ 1000000) : PureF Tryz.prog A 55 [dfaD d, isD w] (.int .i64 (runD d 0 w)) := by
  have a1 := dfa_noTup d
  have a2 := dfa_cells d
  have a3 := dfa_aggQ d
  have hl := right_len hr
  have ew : isD w = .sl false (w.map (.int .i64)) := rfl
  refine evF_inB (n := 40) (rs := [.tmp 4]) Tryz.func55 rfl rfl rfl rfl rfl rfl ?_
  generalize hG : runD d 0 w = G
  replace hG : Hid (G = runD d 0 (w.drop 0)) := hG.symm
  repeat' (first | refine wpB_seq ?_ | refine wpB_regionL rfl ?_ | refine wpB_block ?_ | refine wpB_skip ?_ | refine wpB_exit ?_ | refine wpB_ret ?_ | simp (maxSteps := 1000000) (dsimp := false) (disch := omega) only [go_sem, simprocAttr, *] | ((first | refine stepsB_both (fun hh => ?_) (fun hh => ?_) | refine stepsXB_both (fun hh => ?_) (fun hh => ?_)) <;> (try simp (maxSteps := 1000000) (dsimp := false) (disch := omega) only [go_sem, simprocAttr, decide_eq_true_eq, decide_eq_false_iff_not, Bool.not_eq_true, Bool.not_eq_false, Bool.not_eq_true', Bool.not_eq_false', Int.not_lt, Int.not_le, bne_iff_ne, bne_eq_false_iff_eq, beq_iff_eq, beq_eq_false_iff_ne, ne_eq, Int.ofNat_inj, Int.natCast_inj] at hh) <;> (try (exfalso; omega))) | (refine wpB_cond (by simp (maxSteps := 1000000) (dsimp := false) (disch := omega) only [go_sem, simprocAttr, *]; exact rfl) (fun hh => ?_) (fun hh => ?_) <;> (try simp (maxSteps := 1000000) (dsimp := false) (disch := omega) only [go_sem, simprocAttr, decide_eq_true_eq, decide_eq_false_iff_not, Bool.not_eq_true, Bool.not_eq_false, Bool.not_eq_true', Bool.not_eq_false', Int.not_lt, Int.not_le, bne_iff_ne, bne_eq_false_iff_eq, beq_iff_eq, beq_eq_false_iff_ne, ne_eq, Int.ofNat_inj, Int.natCast_inj] at hh) <;> (try (exfalso; omega))))
  refine wpB_loop (fun e H => ∃ (j : Nat) (a : Int), j ≤ w.length ∧ hget H 0 = .arr [dfaD d] ∧ e 1 = isD w ∧ e 2 = .ptr 0 0 0 ∧ e 5 = .int .i64 a ∧ e 6 = .int .i64 j ∧ -1 ≤ a ∧ a < d.next.length ∧ G = if a < 0 then a else runD d a (w.drop j)) (fun e H => w.length - natOf (e 6)) ?_ ?_
  · exact ⟨0, 0, by omega, rfl, gs, gs, gs, gs, by omega, by omega, hG⟩
  clear hG
  rintro e H ⟨j, a, hj, h0, e1, e2, e5, e6, ha0, ha1, ha⟩ R hR
  by_cases hb : j < w.length
  case neg =>
    rw [List.drop_eq_nil_of_le (by omega)] at ha
    have : G = a := by rw [ha]; split <;> rfl
    subst this
    clear ha
    repeat' (first | refine wpB_seq ?_ | refine wpB_regionL rfl ?_ | refine wpB_block ?_ | refine wpB_skip ?_ | refine wpB_exit ?_ | refine wpB_ret ?_ | simp (maxSteps := 1000000) (dsimp := false) (disch := omega) only [go_sem, simprocAttr, *] | ((first | refine stepsB_both (fun hh => ?_) (fun hh => ?_) | refine stepsXB_both (fun hh => ?_) (fun hh => ?_)) <;> (try simp (maxSteps := 1000000) (dsimp := false) (disch := omega) only [go_sem, simprocAttr, decide_eq_true_eq, decide_eq_false_iff_not, Bool.not_eq_true, Bool.not_eq_false, Bool.not_eq_true', Bool.not_eq_false', Int.not_lt, Int.not_le, bne_iff_ne, bne_eq_false_iff_eq, beq_iff_eq, beq_eq_false_iff_ne, ne_eq, Int.ofNat_inj, Int.natCast_inj] at hh) <;> (try (exfalso; omega))) | (refine wpB_cond (by simp (maxSteps := 1000000) (dsimp := false) (disch := omega) only [go_sem, simprocAttr, *]; exact rfl) (fun hh => ?_) (fun hh => ?_) <;> (try simp (maxSteps := 1000000) (dsimp := false) (disch := omega) only [go_sem, simprocAttr, decide_eq_true_eq, decide_eq_false_iff_not, Bool.not_eq_true, Bool.not_eq_false, Bool.not_eq_true', Bool.not_eq_false', Int.not_lt, Int.not_le, bne_iff_ne, bne_eq_false_iff_eq, beq_iff_eq, beq_eq_false_iff_ne, ne_eq, Int.ofNat_inj, Int.natCast_inj] at hh) <;> (try (exfalso; omega))))
  by_cases hc0 : a < 0
  · rw [if_pos hc0] at ha
    subst ha
    repeat' (first | refine wpB_seq ?_ | refine wpB_regionL rfl ?_ | refine wpB_block ?_ | refine wpB_skip ?_ | refine wpB_exit ?_ | refine wpB_ret ?_ | simp (maxSteps := 1000000) (dsimp := false) (disch := omega) only [go_sem, simprocAttr, *] | ((first | refine stepsB_both (fun hh => ?_) (fun hh => ?_) | refine stepsXB_both (fun hh => ?_) (fun hh => ?_)) <;> (try simp (maxSteps := 1000000) (dsimp := false) (disch := omega) only [go_sem, simprocAttr, decide_eq_true_eq, decide_eq_false_iff_not, Bool.not_eq_true, Bool.not_eq_false, Bool.not_eq_true', Bool.not_eq_false', Int.not_lt, Int.not_le, bne_iff_ne, bne_eq_false_iff_eq, beq_iff_eq, beq_eq_false_iff_ne, ne_eq, Int.ofNat_inj, Int.natCast_inj] at hh) <;> (try (exfalso; omega))) | (refine wpB_cond (by simp (maxSteps := 1000000) (dsimp := false) (disch := omega) only [go_sem, simprocAttr, *]; exact rfl) (fun hh => ?_) (fun hh => ?_) <;> (try simp (maxSteps := 1000000) (dsimp := false) (disch := omega) only [go_sem, simprocAttr, decide_eq_true_eq, decide_eq_false_iff_not, Bool.not_eq_true, Bool.not_eq_false, Bool.not_eq_true', Bool.not_eq_false', Int.not_lt, Int.not_le, bne_iff_ne, bne_eq_false_iff_eq, beq_iff_eq, beq_eq_false_iff_ne, ne_eq, Int.ofNat_inj, Int.natCast_inj] at hh) <;> (try (exfalso; omega))))
  rw [if_neg hc0] at ha
  have hd : w.drop j = w[j] :: w.drop (j + 1) := List.drop_eq_getElem_cons hb
  rw [hd, runD] at ha
  have hcell : (w.map (D.int .i64))[j]? = some (.int .i64 w[j]) := by simp [hb]
  generalize w[j] = c at ha hcell
  have hn := next_in hr ht (c := c) (a := a) (by omega) ha1
  replace ha : Hid (G = if nextD d a c < 0 then -1 else runD d (nextD d a c) (w.drop (j + 1))) := ha
  by_cases hc : c < 0 ∨ 16 ≤ c
  · have : G = -1 := by rw [show G = _ from ha, if_pos (by unfold nextD; rw [if_pos hc]; decide)]
    subst this
    clear ha hn
    rcases hc with hc | hc
    · repeat' (first | refine wpB_seq ?_ | refine wpB_regionL rfl ?_ | refine wpB_block ?_ | refine wpB_skip ?_ | refine wpB_exit ?_ | refine wpB_ret ?_ | simp (maxSteps := 1000000) (dsimp := false) (disch := omega) only [go_sem, simprocAttr, *] | ((first | refine stepsB_both (fun hh => ?_) (fun hh => ?_) | refine stepsXB_both (fun hh => ?_) (fun hh => ?_)) <;> (try simp (maxSteps := 1000000) (dsimp := false) (disch := omega) only [go_sem, simprocAttr, decide_eq_true_eq, decide_eq_false_iff_not, Bool.not_eq_true, Bool.not_eq_false, Bool.not_eq_true', Bool.not_eq_false', Int.not_lt, Int.not_le, bne_iff_ne, bne_eq_false_iff_eq, beq_iff_eq, beq_eq_false_iff_ne, ne_eq, Int.ofNat_inj, Int.natCast_inj] at hh) <;> (try (exfalso; omega))) | (refine wpB_cond (by simp (maxSteps := 1000000) (dsimp := false) (disch := omega) only [go_sem, simprocAttr, *]; exact rfl) (fun hh => ?_) (fun hh => ?_) <;> (try simp (maxSteps := 1000000) (dsimp := false) (disch := omega) only [go_sem, simprocAttr, decide_eq_true_eq, decide_eq_false_iff_not, Bool.not_eq_true, Bool.not_eq_false, Bool.not_eq_true', Bool.not_eq_false', Int.not_lt, Int.not_le, bne_iff_ne, bne_eq_false_iff_eq, beq_iff_eq, beq_eq_false_iff_ne, ne_eq, Int.ofNat_inj, Int.natCast_inj] at hh) <;> (try (exfalso; omega))))
    · repeat' (first | refine wpB_seq ?_ | refine wpB_regionL rfl ?_ | refine wpB_block ?_ | refine wpB_skip ?_ | refine wpB_exit ?_ | refine wpB_ret ?_ | simp (maxSteps := 1000000) (dsimp := false) (disch := omega) only [go_sem, simprocAttr, *] | ((first | refine stepsB_both (fun hh => ?_) (fun hh => ?_) | refine stepsXB_both (fun hh => ?_) (fun hh => ?_)) <;> (try simp (maxSteps := 1000000) (dsimp := false) (disch := omega) only [go_sem, simprocAttr, decide_eq_true_eq, decide_eq_false_iff_not, Bool.not_eq_true, Bool.not_eq_false, Bool.not_eq_true', Bool.not_eq_false', Int.not_lt, Int.not_le, bne_iff_ne, bne_eq_false_iff_eq, beq_iff_eq, beq_eq_false_iff_ne, ne_eq, Int.ofNat_inj, Int.natCast_inj] at hh) <;> (try (exfalso; omega))) | (refine wpB_cond (by simp (maxSteps := 1000000) (dsimp := false) (disch := omega) only [go_sem, simprocAttr, *]; exact rfl) (fun hh => ?_) (fun hh => ?_) <;> (try simp (maxSteps := 1000000) (dsimp := false) (disch := omega) only [go_sem, simprocAttr, decide_eq_true_eq, decide_eq_false_iff_not, Bool.not_eq_true, Bool.not_eq_false, Bool.not_eq_true', Bool.not_eq_false', Int.not_lt, Int.not_le, bne_iff_ne, bne_eq_false_iff_eq, beq_iff_eq, beq_eq_false_iff_ne, ne_eq, Int.ofNat_inj, Int.natCast_inj] at hh) <;> (try (exfalso; omega))))
  have hba : a.toNat < d.next.length := by omega
  have hrow := row_get hba
  have hlen := ht _ (List.getElem_mem hba)
  have hz : nextD d a c = d.next[a.toNat].getD c.toNat 0 := by unfold nextD; rw [if_neg hc]; simp [List.getD, hba]
  rw [hz] at hn
  replace ha : Hid (G = if d.next[a.toNat].getD c.toNat 0 < 0 then -1 else runD d (d.next[a.toNat].getD c.toNat 0) (w.drop (j + 1))) := by rw [← hz]; exact ha
  clear hz
  generalize d.next[a.toNat] = row at hrow hlen hn ha
  have hil : c.toNat < row.length := by omega
  have hcell2 : (row.map (D.int .i64))[c.toNat * 1]? = some (.int .i64 row[c.toNat]) := by simp [hil]
  have hg : row.getD c.toNat 0 = row[c.toNat] := by simp [List.getD, hil]
  rw [hg] at ha hn
  generalize row[c.toNat] = t at hcell2 ha hn
  clear hg
  have hc1 : 0 ≤ c := by omega
  have hc2 : c < 16 := by omega
  clear hc
  have b1 := row_noTup row
  have b2 := row_cells row
  have b3 := row_aggQ row
  repeat' (first | refine wpB_seq ?_ | refine wpB_regionL rfl ?_ | refine wpB_block ?_ | refine wpB_skip ?_ | refine wpB_exit ?_ | refine wpB_ret ?_ | simp (maxSteps := 1000000) (dsimp := false) (disch := omega) only [go_sem, simprocAttr, *] | ((first | refine stepsB_both (fun hh => ?_) (fun hh => ?_) | refine stepsXB_both (fun hh => ?_) (fun hh => ?_)) <;> (try simp (maxSteps := 1000000) (dsimp := false) (disch := omega) only [go_sem, simprocAttr, decide_eq_true_eq, decide_eq_false_iff_not, Bool.not_eq_true, Bool.not_eq_false, Bool.not_eq_true', Bool.not_eq_false', Int.not_lt, Int.not_le, bne_iff_ne, bne_eq_false_iff_eq, beq_iff_eq, beq_eq_false_iff_ne, ne_eq, Int.ofNat_inj, Int.natCast_inj] at hh) <;> (try (exfalso; omega))) | (refine wpB_cond (by simp (maxSteps := 1000000) (dsimp := false) (disch := omega) only [go_sem, simprocAttr, *]; exact rfl) (fun hh => ?_) (fun hh => ?_) <;> (try simp (maxSteps := 1000000) (dsimp := false) (disch := omega) only [go_sem, simprocAttr, decide_eq_true_eq, decide_eq_false_iff_not, Bool.not_eq_true, Bool.not_eq_false, Bool.not_eq_true', Bool.not_eq_false', Int.not_lt, Int.not_le, bne_iff_ne, bne_eq_false_iff_eq, beq_iff_eq, beq_eq_false_iff_ne, ne_eq, Int.ofNat_inj, Int.natCast_inj] at hh) <;> (try (exfalso; omega))))
  refine wpB_regionXL (prs := []) (by kernel_rfl) rfl (by kernel_rfl) ?_; simp (maxSteps := 1000000) (dsimp := false) (disch := omega) only [go_sem, simprocAttr, *, rowD]
  repeat' (first | refine wpB_seq ?_ | refine wpB_regionL rfl ?_ | refine wpB_block ?_ | refine wpB_skip ?_ | refine wpB_exit ?_ | refine wpB_ret ?_ | simp (maxSteps := 1000000) (dsimp := false) (disch := omega) only [go_sem, simprocAttr, *] | ((first | refine stepsB_both (fun hh => ?_) (fun hh => ?_) | refine stepsXB_both (fun hh => ?_) (fun hh => ?_)) <;> (try simp (maxSteps := 1000000) (dsimp := false) (disch := omega) only [go_sem, simprocAttr, decide_eq_true_eq, decide_eq_false_iff_not, Bool.not_eq_true, Bool.not_eq_false, Bool.not_eq_true', Bool.not_eq_false', Int.not_lt, Int.not_le, bne_iff_ne, bne_eq_false_iff_eq, beq_iff_eq, beq_eq_false_iff_ne, ne_eq, Int.ofNat_inj, Int.natCast_inj] at hh) <;> (try (exfalso; omega))) | (refine wpB_cond (by simp (maxSteps := 1000000) (dsimp := false) (disch := omega) only [go_sem, simprocAttr, *]; exact rfl) (fun hh => ?_) (fun hh => ?_) <;> (try simp (maxSteps := 1000000) (dsimp := false) (disch := omega) only [go_sem, simprocAttr, decide_eq_true_eq, decide_eq_false_iff_not, Bool.not_eq_true, Bool.not_eq_false, Bool.not_eq_true', Bool.not_eq_false', Int.not_lt, Int.not_le, bne_iff_ne, bne_eq_false_iff_eq, beq_iff_eq, beq_eq_false_iff_ne, ne_eq, Int.ofNat_inj, Int.natCast_inj] at hh) <;> (try (exfalso; omega))))
  refine hR _ _ ⟨j + 1, t, by omega, gs, gs, gs, gs, gs, by omega, by omega, ?_⟩ ?_
  · rw [show G = _ from ha]
    by_cases h : t < 0
    · rw [if_pos h, if_pos h]; omega
    · rw [if_neg h, if_neg h]
  · simp (maxSteps := 1000000) (dsimp := false) (disch := omega) only [go_sem, simprocAttr, *, natOf_int]
/-- is it a match? -/
def goodD (d : Dfa) (a : Int) (w : List Int) : Bool := decide (0 ≤ runD d a w) && decide (0 ≤ ruleAt d (runD d a w))
/-- the longest beginning that is one, of so many at most -/
def refL (d : Dfa) (u : List Int) : Nat → Option Nat
  | 0 => none
  | m + 1 => if goodD d 0 (u.take (m + 1)) then some (m + 1) else refL d u m
def refP (d : Dfa) (u : List Int) (f : Int) : Option Nat → Int × Int
  | none => (-1, -1)
  | some m => (f + m, ruleAt d (runD d 0 (u.take m)))
theorem rlong_ok (d : Dfa) (w : List Int) (f : Int) (ht : tyM d) (hr : rightD d = true) (hw : w.length ≤ 1000000) : PureF Tryz.prog A 30 [dfaD d, isD w, .int .i64 f] (pairD (if f < 0 then (-1, -1) else refP d (w.drop f.toNat) f (refL d (w.drop f.toNat) (w.drop f.toNat).length))) := by
  have a1 := dfa_noTup d
  have a2 := dfa_cells d
  have a3 := dfa_aggQ d
  have hl := right_len hr
  have ew : isD w = .sl false (w.map (.int .i64)) := rfl
  refine evF_inB (n := 41) (rs := [.tmp 6, .tmp 7]) Tryz.func30 rfl rfl rfl rfl rfl rfl ?_
  by_cases hf : f < 0
  · rw [if_pos hf]
    repeat' (first | refine wpB_seq ?_ | refine wpB_regionL rfl ?_ | refine wpB_block ?_ | refine wpB_skip ?_ | refine wpB_exit ?_ | refine wpB_ret ?_ | simp (maxSteps := 1000000) (dsimp := false) (disch := omega) only [go_sem, simprocAttr, *, pairD] | ((first | refine stepsB_both (fun hh => ?_) (fun hh => ?_) | refine stepsXB_both (fun hh => ?_) (fun hh => ?_)) <;> (try simp (maxSteps := 1000000) (dsimp := false) (disch := omega) only [go_sem, simprocAttr, decide_eq_true_eq, decide_eq_false_iff_not, Bool.not_eq_true, Bool.not_eq_false, Bool.not_eq_true', Bool.not_eq_false', Int.not_lt, Int.not_le, bne_iff_ne, bne_eq_false_iff_eq, beq_iff_eq, beq_eq_false_iff_ne, ne_eq, Int.ofNat_inj, Int.natCast_inj] at hh) <;> (try (exfalso; omega))) | (refine wpB_cond (by simp (maxSteps := 1000000) (dsimp := false) (disch := omega) only [go_sem, simprocAttr, *, pairD]; exact rfl) (fun hh => ?_) (fun hh => ?_) <;> (try simp (maxSteps := 1000000) (dsimp := false) (disch := omega) only [go_sem, simprocAttr, decide_eq_true_eq, decide_eq_false_iff_not, Bool.not_eq_true, Bool.not_eq_false, Bool.not_eq_true', Bool.not_eq_false', Int.not_lt, Int.not_le, bne_iff_ne, bne_eq_false_iff_eq, beq_iff_eq, beq_eq_false_iff_ne, ne_eq, Int.ofNat_inj, Int.natCast_inj] at hh) <;> (try (exfalso; omega))))
    rfl
  rw [if_neg hf]
  have hwl : (w.drop f.toNat).length = w.length - f.toNat := List.length_drop
  generalize hu : w.drop f.toNat = u at hwl
  have hw1 : u.length ≤ w.length - f.toNat := by omega
  have hw2 : w.length - f.toNat ≤ u.length := by omega
  clear hwl
  generalize hG : refP d u f (refL d u u.length) = G
  replace hG : Hid (G = refP d u f (refL d u u.length)) := hG.symm
  repeat' (first | refine wpB_seq ?_ | refine wpB_regionL rfl ?_ | refine wpB_block ?_ | refine wpB_skip ?_ | refine wpB_exit ?_ | refine wpB_ret ?_ | simp (maxSteps := 1000000) (dsimp := false) (disch := omega) only [go_sem, simprocAttr, *] | ((first | refine stepsB_both (fun hh => ?_) (fun hh => ?_) | refine stepsXB_both (fun hh => ?_) (fun hh => ?_)) <;> (try simp (maxSteps := 1000000) (dsimp := false) (disch := omega) only [go_sem, simprocAttr, decide_eq_true_eq, decide_eq_false_iff_not, Bool.not_eq_true, Bool.not_eq_false, Bool.not_eq_true', Bool.not_eq_false', Int.not_lt, Int.not_le, bne_iff_ne, bne_eq_false_iff_eq, beq_iff_eq, beq_eq_false_iff_ne, ne_eq, Int.ofNat_inj, Int.natCast_inj] at hh) <;> (try (exfalso; omega))) | (refine wpB_cond (by simp (maxSteps := 1000000) (dsimp := false) (disch := omega) only [go_sem, simprocAttr, *]; exact rfl) (fun hh => ?_) (fun hh => ?_) <;> (try simp (maxSteps := 1000000) (dsimp := false) (disch := omega) only [go_sem, simprocAttr, decide_eq_true_eq, decide_eq_false_iff_not, Bool.not_eq_true, Bool.not_eq_false, Bool.not_eq_true', Bool.not_eq_false', Int.not_lt, Int.not_le, bne_iff_ne, bne_eq_false_iff_eq, beq_iff_eq, beq_eq_false_iff_ne, ne_eq, Int.ofNat_inj, Int.natCast_inj] at hh) <;> (try (exfalso; omega))))
  refine wpB_loop (fun e H => ∃ (m : Nat) (n : Int), m ≤ u.length ∧ (n = f + m ∨ m = 0 ∧ n ≤ f ∧ 0 ≤ n) ∧ hget H 0 = .arr [dfaD d] ∧ e 1 = isD w ∧ e 2 = .int .i64 f ∧ e 3 = .ptr 0 0 0 ∧ e 8 = .int .i64 n ∧ G = refP d u f (refL d u m)) (fun e H => natOf (e 8)) ?_ ?_
  · exact ⟨u.length, w.length, by omega, by omega, rfl, gs, gs, gs, gs, hG⟩
  clear hG
  rintro e H ⟨m, n, hm, hn, h0, e1, e2, e3, e8, ha⟩ R hR
  by_cases hb : m = 0
  · subst hb
    have : G = (-1, -1) := ha
    subst this
    clear ha
    have hn2 : n ≤ f := by omega
    clear hn
    repeat' (first | refine wpB_seq ?_ | refine wpB_regionL rfl ?_ | refine wpB_block ?_ | refine wpB_skip ?_ | refine wpB_exit ?_ | refine wpB_ret ?_ | simp (maxSteps := 1000000) (dsimp := false) (disch := omega) only [go_sem, simprocAttr, *, pairD] | ((first | refine stepsB_both (fun hh => ?_) (fun hh => ?_) | refine stepsXB_both (fun hh => ?_) (fun hh => ?_)) <;> (try simp (maxSteps := 1000000) (dsimp := false) (disch := omega) only [go_sem, simprocAttr, decide_eq_true_eq, decide_eq_false_iff_not, Bool.not_eq_true, Bool.not_eq_false, Bool.not_eq_true', Bool.not_eq_false', Int.not_lt, Int.not_le, bne_iff_ne, bne_eq_false_iff_eq, beq_iff_eq, beq_eq_false_iff_ne, ne_eq, Int.ofNat_inj, Int.natCast_inj] at hh) <;> (try (exfalso; omega))) | (refine wpB_cond (by simp (maxSteps := 1000000) (dsimp := false) (disch := omega) only [go_sem, simprocAttr, *, pairD]; exact rfl) (fun hh => ?_) (fun hh => ?_) <;> (try simp (maxSteps := 1000000) (dsimp := false) (disch := omega) only [go_sem, simprocAttr, decide_eq_true_eq, decide_eq_false_iff_not, Bool.not_eq_true, Bool.not_eq_false, Bool.not_eq_true', Bool.not_eq_false', Int.not_lt, Int.not_le, bne_iff_ne, bne_eq_false_iff_eq, beq_iff_eq, beq_eq_false_iff_ne, ne_eq, Int.ofNat_inj, Int.natCast_inj] at hh) <;> (try (exfalso; omega))))
    rfl
  obtain ⟨m, rfl⟩ : ∃ x, m = x + 1 := ⟨m - 1, by omega⟩
  have hn2 : n = f + (m + 1 : Nat) := by omega
  clear hn
  subst hn2
  have hsl : List.drop f.toNat (List.take (f + ((m + 1 : Nat) : Int)).toNat (List.map (D.int .i64) w)) = (u.take (m + 1)).map (.int .i64) := by
    rw [← List.map_take, ← List.map_drop, List.drop_take, hu, show (f + ((m + 1 : Nat) : Int)).toNat - f.toNat = m + 1 by omega]
  have hhd := headInts w
  have hal : (f + ((m + 1 : Nat) : Int)).toNat ≤ w.length := by omega
  have hfl : f.toNat ≤ (f + ((m + 1 : Nat) : Int)).toNat := by omega
  have hfp : 0 ≤ f + ((m + 1 : Nat) : Int) := by omega
  have hfe : ¬ (f + ((m + 1 : Nat) : Int) ≤ f) := by omega
  have hrr := rrun_ok d (u.take (m + 1)) ht hr (by rw [List.length_take]; omega)
  have hst := stripDw d (u.take (m + 1))
  rw [show isD (u.take (m + 1)) = .sl false ((u.take (m + 1)).map (.int .i64)) from rfl] at hrr hst
  have hin := runD_in hr ht (w := u.take (m + 1)) (a := 0) (by omega) (by omega)
  have hg : goodD d 0 (u.take (m + 1)) = (decide (0 ≤ runD d 0 (u.take (m + 1))) && decide (0 ≤ ruleAt d (runD d 0 (u.take (m + 1))))) := rfl
  replace ha : Hid (G = if goodD d 0 (u.take (m + 1)) then (f + ((m + 1 : Nat) : Int), ruleAt d (runD d 0 (u.take (m + 1)))) else refP d u f (refL d u m)) := by
    show G = _
    rw [ha, refL]
    split <;> rfl
  rw [hg] at ha
  clear hg hu
  generalize u.take (m + 1) = v at hsl hrr hst hin ha
  generalize hN : f + ((m + 1 : Nat) : Int) = N at hsl hal hfl hfp hfe e8 ha
  have hN2 : f < N := by omega
  have hN3 : N ≤ 1000000 := by omega
  repeat' (first | refine wpB_seq ?_ | refine wpB_regionL rfl ?_ | refine wpB_block ?_ | refine wpB_skip ?_ | refine wpB_exit ?_ | refine wpB_ret ?_ | simp (maxSteps := 1000000) (dsimp := false) (disch := omega) only [go_sem, simprocAttr, *] | ((first | refine stepsB_both (fun hh => ?_) (fun hh => ?_) | refine stepsXB_both (fun hh => ?_) (fun hh => ?_)) <;> (try simp (maxSteps := 1000000) (dsimp := false) (disch := omega) only [go_sem, simprocAttr, decide_eq_true_eq, decide_eq_false_iff_not, Bool.not_eq_true, Bool.not_eq_false, Bool.not_eq_true', Bool.not_eq_false', Int.not_lt, Int.not_le, bne_iff_ne, bne_eq_false_iff_eq, beq_iff_eq, beq_eq_false_iff_ne, ne_eq, Int.ofNat_inj, Int.natCast_inj] at hh) <;> (try (exfalso; omega))) | (refine wpB_cond (by simp (maxSteps := 1000000) (dsimp := false) (disch := omega) only [go_sem, simprocAttr, *]; exact rfl) (fun hh => ?_) (fun hh => ?_) <;> (try simp (maxSteps := 1000000) (dsimp := false) (disch := omega) only [go_sem, simprocAttr, decide_eq_true_eq, decide_eq_false_iff_not, Bool.not_eq_true, Bool.not_eq_false, Bool.not_eq_true', Bool.not_eq_false', Int.not_lt, Int.not_le, bne_iff_ne, bne_eq_false_iff_eq, beq_iff_eq, beq_eq_false_iff_ne, ne_eq, Int.ofNat_inj, Int.natCast_inj] at hh) <;> (try (exfalso; omega))))
  refine wpB_regionXL (prs := []) (by kernel_rfl) rfl (by kernel_rfl) ?_; simp (maxSteps := 1000000) (dsimp := false) (disch := omega) only [go_sem, simprocAttr, *]
  refine ⟨?_, evB_plain bo55 rfl rfl hst hrr ?_⟩
  · exact fun _ => rfl
  generalize runD d 0 v = a at hrr hin ha
  clear hrr hst hsl
  by_cases hc : a < 0
  · have : G = refP d u f (refL d u m) := by rw [show G = _ from ha]; simp; omega
    clear ha
    repeat' (first | refine wpB_seq ?_ | refine wpB_regionL rfl ?_ | refine wpB_block ?_ | refine wpB_skip ?_ | refine wpB_exit ?_ | refine wpB_ret ?_ | simp (maxSteps := 1000000) (dsimp := false) (disch := omega) only [go_sem, simprocAttr, *] | ((first | refine stepsB_both (fun hh => ?_) (fun hh => ?_) | refine stepsXB_both (fun hh => ?_) (fun hh => ?_)) <;> (try simp (maxSteps := 1000000) (dsimp := false) (disch := omega) only [go_sem, simprocAttr, decide_eq_true_eq, decide_eq_false_iff_not, Bool.not_eq_true, Bool.not_eq_false, Bool.not_eq_true', Bool.not_eq_false', Int.not_lt, Int.not_le, bne_iff_ne, bne_eq_false_iff_eq, beq_iff_eq, beq_eq_false_iff_ne, ne_eq, Int.ofNat_inj, Int.natCast_inj] at hh) <;> (try (exfalso; omega))) | (refine wpB_cond (by simp (maxSteps := 1000000) (dsimp := false) (disch := omega) only [go_sem, simprocAttr, *]; exact rfl) (fun hh => ?_) (fun hh => ?_) <;> (try simp (maxSteps := 1000000) (dsimp := false) (disch := omega) only [go_sem, simprocAttr, decide_eq_true_eq, decide_eq_false_iff_not, Bool.not_eq_true, Bool.not_eq_false, Bool.not_eq_true', Bool.not_eq_false', Int.not_lt, Int.not_le, bne_iff_ne, bne_eq_false_iff_eq, beq_iff_eq, beq_eq_false_iff_ne, ne_eq, Int.ofNat_inj, Int.natCast_inj] at hh) <;> (try (exfalso; omega))))
    refine hR _ _ ⟨m, N - 1, by omega, by omega, gs, gs, gs, gs, gs, this⟩ ?_
    simp (maxSteps := 1000000) (dsimp := false) (disch := omega) only [go_sem, simprocAttr, *, natOf_int]
  have hcr := rule_cell (d := d) (a := a) (by omega) (by omega)
  generalize ruleAt d a = q at ha hcr
  repeat' (first | refine wpB_seq ?_ | refine wpB_regionL rfl ?_ | refine wpB_block ?_ | refine wpB_skip ?_ | refine wpB_exit ?_ | refine wpB_ret ?_ | simp (maxSteps := 1000000) (dsimp := false) (disch := omega) only [go_sem, simprocAttr, *] | ((first | refine stepsB_both (fun hh => ?_) (fun hh => ?_) | refine stepsXB_both (fun hh => ?_) (fun hh => ?_)) <;> (try simp (maxSteps := 1000000) (dsimp := false) (disch := omega) only [go_sem, simprocAttr, decide_eq_true_eq, decide_eq_false_iff_not, Bool.not_eq_true, Bool.not_eq_false, Bool.not_eq_true', Bool.not_eq_false', Int.not_lt, Int.not_le, bne_iff_ne, bne_eq_false_iff_eq, beq_iff_eq, beq_eq_false_iff_ne, ne_eq, Int.ofNat_inj, Int.natCast_inj] at hh) <;> (try (exfalso; omega))) | (refine wpB_cond (by simp (maxSteps := 1000000) (dsimp := false) (disch := omega) only [go_sem, simprocAttr, *]; exact rfl) (fun hh => ?_) (fun hh => ?_) <;> (try simp (maxSteps := 1000000) (dsimp := false) (disch := omega) only [go_sem, simprocAttr, decide_eq_true_eq, decide_eq_false_iff_not, Bool.not_eq_true, Bool.not_eq_false, Bool.not_eq_true', Bool.not_eq_false', Int.not_lt, Int.not_le, bne_iff_ne, bne_eq_false_iff_eq, beq_iff_eq, beq_eq_false_iff_ne, ne_eq, Int.ofNat_inj, Int.natCast_inj] at hh) <;> (try (exfalso; omega))))
  · refine wpB_regionXL (prs := []) (by kernel_rfl) rfl (by kernel_rfl) ?_; simp (maxSteps := 1000000) (dsimp := false) (disch := omega) only [go_sem, simprocAttr, *, pairD]
    have : G = (N, q) := by rw [show G = _ from ha]; simp; omega
    subst this
    repeat' (first | refine wpB_seq ?_ | refine wpB_regionL rfl ?_ | refine wpB_block ?_ | refine wpB_skip ?_ | refine wpB_exit ?_ | refine wpB_ret ?_ | simp (maxSteps := 1000000) (dsimp := false) (disch := omega) only [go_sem, simprocAttr, *] | ((first | refine stepsB_both (fun hh => ?_) (fun hh => ?_) | refine stepsXB_both (fun hh => ?_) (fun hh => ?_)) <;> (try simp (maxSteps := 1000000) (dsimp := false) (disch := omega) only [go_sem, simprocAttr, decide_eq_true_eq, decide_eq_false_iff_not, Bool.not_eq_true, Bool.not_eq_false, Bool.not_eq_true', Bool.not_eq_false', Int.not_lt, Int.not_le, bne_iff_ne, bne_eq_false_iff_eq, beq_iff_eq, beq_eq_false_iff_ne, ne_eq, Int.ofNat_inj, Int.natCast_inj] at hh) <;> (try (exfalso; omega))) | (refine wpB_cond (by simp (maxSteps := 1000000) (dsimp := false) (disch := omega) only [go_sem, simprocAttr, *]; exact rfl) (fun hh => ?_) (fun hh => ?_) <;> (try simp (maxSteps := 1000000) (dsimp := false) (disch := omega) only [go_sem, simprocAttr, decide_eq_true_eq, decide_eq_false_iff_not, Bool.not_eq_true, Bool.not_eq_false, Bool.not_eq_true', Bool.not_eq_false', Int.not_lt, Int.not_le, bne_iff_ne, bne_eq_false_iff_eq, beq_iff_eq, beq_eq_false_iff_ne, ne_eq, Int.ofNat_inj, Int.natCast_inj] at hh) <;> (try (exfalso; omega))))
    rfl
  · have : G = refP d u f (refL d u m) := by rw [show G = _ from ha]; simp; omega
    clear ha
    repeat' (first | refine wpB_seq ?_ | refine wpB_regionL rfl ?_ | refine wpB_block ?_ | refine wpB_skip ?_ | refine wpB_exit ?_ | refine wpB_ret ?_ | simp (maxSteps := 1000000) (dsimp := false) (disch := omega) only [go_sem, simprocAttr, *] | ((first | refine stepsB_both (fun hh => ?_) (fun hh => ?_) | refine stepsXB_both (fun hh => ?_) (fun hh => ?_)) <;> (try simp (maxSteps := 1000000) (dsimp := false) (disch := omega) only [go_sem, simprocAttr, decide_eq_true_eq, decide_eq_false_iff_not, Bool.not_eq_true, Bool.not_eq_false, Bool.not_eq_true', Bool.not_eq_false', Int.not_lt, Int.not_le, bne_iff_ne, bne_eq_false_iff_eq, beq_iff_eq, beq_eq_false_iff_ne, ne_eq, Int.ofNat_inj, Int.natCast_inj] at hh) <;> (try (exfalso; omega))) | (refine wpB_cond (by simp (maxSteps := 1000000) (dsimp := false) (disch := omega) only [go_sem, simprocAttr, *]; exact rfl) (fun hh => ?_) (fun hh => ?_) <;> (try simp (maxSteps := 1000000) (dsimp := false) (disch := omega) only [go_sem, simprocAttr, decide_eq_true_eq, decide_eq_false_iff_not, Bool.not_eq_true, Bool.not_eq_false, Bool.not_eq_true', Bool.not_eq_false', Int.not_lt, Int.not_le, bne_iff_ne, bne_eq_false_iff_eq, beq_iff_eq, beq_eq_false_iff_ne, ne_eq, Int.ofNat_inj, Int.natCast_inj] at hh) <;> (try (exfalso; omega))))
    refine hR _ _ ⟨m, N - 1, by omega, by omega, gs, gs, gs, gs, gs, this⟩ ?_
    simp (maxSteps := 1000000) (dsimp := false) (disch := omega) only [go_sem, simprocAttr, *, natOf_int]
end Go.Proofs.W
end
/- The longest match, in two ways; beginnings of words. -/
section
set_option maxHeartbeats 4000000
set_option linter.unusedVariables false
set_option linter.unusedSimpArgs false
namespace Go.Proofs.W
open Go Vm Go.Proofs.Zs09

def refA (d : Dfa) (a : Int) (u : List Int) : Nat → Option Nat
  | 0 => none
  | m + 1 => if goodD d a (u.take (m + 1)) then some (m + 1) else refA d a u m
theorem refL_eq (d : Dfa) (u : List Int) : ∀ m, refL d u m = refA d 0 u m
  | 0 => rfl
  | m + 1 => by simp only [refL, refA, refL_eq d u m]
theorem good_neg {d : Dfa} {a c : Int} {v : List Int} (h : nextD d a c < 0) : goodD d a (c :: v) = false := by
  unfold goodD
  rw [runD, if_pos h]; rfl
theorem good_pos {d : Dfa} {a c : Int} {v : List Int} (h : ¬ nextD d a c < 0) : goodD d a (c :: v) = goodD d (nextD d a c) v := by
  unfold goodD
  rw [runD, if_neg h]
theorem refA_neg {d : Dfa} {a c : Int} {w : List Int} (h : nextD d a c < 0) : ∀ m, refA d a (c :: w) m = none
  | 0 => rfl
  | m + 1 => by
    rw [refA, List.take_succ_cons, good_neg h]
    exact refA_neg h m
theorem refA_pos {d : Dfa} {a c : Int} {w : List Int} (h : ¬ nextD d a c < 0) : ∀ m, refA d a (c :: w) (m + 1) = match refA d (nextD d a c) w m with
    | some k => some (k + 1)
    | none => if goodD d (nextD d a c) [] then some 1 else none
  | 0 => by
    show (if goodD d a [c] then some 1 else none) = _
    rw [good_pos h]
    rfl
  | m + 1 => by
    rw [refA, List.take_succ_cons, good_pos h, refA_pos h m]
    conv => rhs; rw [refA]
    cases goodD d (nextD d a c) (w.take (m + 1)) <;> simp
theorem lg_ref (d : Dfa) : ∀ (u : List Int) (a p : Int) (er : Int × Int), 0 ≤ a → lgD d a p u er = match refA d a u u.length with
    | none => er
    | some m => (p + m, ruleAt d (runD d a (u.take m)))
  | [], a, p, er, h => rfl
  | c :: w, a, p, er, h => by
    rw [lgD]
    by_cases ht : nextD d a c < 0
    · rw [if_pos ht, refA_neg ht]
    · rw [if_neg ht, lg_ref d w _ _ _ (by omega), List.length_cons, refA_pos ht]
      cases hk : refA d (nextD d a c) w w.length with
      | none =>
        simp only
        have hg : goodD d (nextD d a c) [] = (decide (0 ≤ nextD d a c) && decide (0 ≤ ruleAt d (nextD d a c))) := rfl
        rw [hg]
        by_cases hq : 0 ≤ ruleAt d (nextD d a c)
        · have : (decide (0 ≤ nextD d a c) && decide (0 ≤ ruleAt d (nextD d a c))) = true := by simp; omega
          rw [if_pos hq, if_pos this]
          simp only [List.take_succ_cons, List.take_zero, runD, if_neg ht]
          rfl
        · have : ¬ (decide (0 ≤ nextD d a c) && decide (0 ≤ ruleAt d (nextD d a c))) = true := by simp; omega
          rw [if_neg hq, if_neg this]
      | some k =>
        simp only [List.take_succ_cons, runD, if_neg ht]
        congr 1
        omega
theorem long_ref {d : Dfa} (hr : rightD d = true) (w : List Int) (f : Int) : (if f < 0 then (-1, -1) else refP d (w.drop f.toNat) f (refL d (w.drop f.toNat) (w.drop f.toNat).length)) = longD d w f := by
  unfold longD
  by_cases h0 : f < 0
  · rw [if_pos h0, if_neg (by omega)]
  rw [if_neg h0, refL_eq]
  by_cases h1 : f ≤ w.length
  · rw [if_pos ⟨hr, by omega, h1⟩, lg_ref _ _ _ _ _ (by omega)]
    cases refA d 0 (w.drop f.toNat) (w.drop f.toNat).length <;> rfl
  · rw [if_neg (by omega), List.drop_eq_nil_of_le (by omega)]
    rfl
theorem run_take {d : Dfa} : ∀ {w : List Int} {a : Int} (k : Nat), 0 ≤ a → runD d a (w.take k) < 0 → runD d a w < 0
  | [], a, k, h0, h => by simpa using h
  | c :: w, a, 0, h0, h => by simp [runD] at h; omega
  | c :: w, a, k + 1, h0, h => by
    rw [List.take_succ_cons, runD] at h
    rw [runD]
    by_cases hc : nextD d a c < 0
    · rw [if_pos hc]; decide
    · rw [if_neg hc] at h ⊢
      exact run_take k (by omega) h
theorem lg_ge {d : Dfa} : ∀ {w : List Int} {a p : Int} {er : Int × Int}, er.1 ≤ p → er.1 ≤ (lgD d a p w er).1 ∧ (lgD d a p w er).1 ≤ p + w.length
  | [], a, p, er, h => by simp [lgD]; omega
  | c :: w, a, p, er, h => by
    rw [lgD]
    split
    · simp; omega
    · have := lg_ge (d := d) (w := w) (a := nextD d a c) (p := p + 1) (er := if 0 ≤ ruleAt d (nextD d a c) then (p + 1, ruleAt d (nextD d a c)) else er) (by split <;> (try simp) <;> omega)
      have h2 : er.1 ≤ (if 0 ≤ ruleAt d (nextD d a c) then (p + 1, ruleAt d (nextD d a c)) else er).1 := by split <;> (try simp) <;> omega
      simp only [List.length_cons]
      omega
theorem lg_take {d : Dfa} : ∀ {w : List Int} {a p : Int} {er : Int × Int} (k : Nat), er.1 ≤ p → (lgD d a p (w.take k) er).1 ≤ (lgD d a p w er).1
  | [], a, p, er, k, h => by simp
  | c :: w, a, p, er, 0, h => by rw [List.take_zero, show lgD d a p [] er = er from rfl]; exact (lg_ge h).1
  | c :: w, a, p, er, k + 1, h => by
    rw [List.take_succ_cons, lgD, lgD]
    split
    · exact Int.le_refl _
    · exact lg_take k (by split <;> (try simp) <;> omega)
theorem long0 {d : Dfa} (hr : rightD d = true) (w : List Int) : longD d w 0 = lgD d 0 0 w (-1, -1) := by
  unfold longD
  rw [if_pos ⟨hr, by omega, by omega⟩]
  simp
theorem long_le (d : Dfa) (w : List Int) (k : Nat) (hk : k ≤ w.length) : (longD d (w.take k) 0).1 ≤ (longD d w 0).1 ∧ (longD d (w.take k) 0).1 ≤ k := by
  cases hr : rightD d with
  | false => simp only [longD, hr]; simp <;> omega
  | true =>
    rw [long0 hr, long0 hr]
    refine ⟨lg_take k (by simp), ?_⟩
    have := (lg_ge (d := d) (w := w.take k) (a := 0) (p := 0) (er := (-1, -1)) (by simp)).2
    rw [List.length_take] at this
    omega
end Go.Proofs.W
end
/- Words cut into pieces by a machine. -/
section
set_option maxHeartbeats 4000000
set_option linter.unusedVariables false
set_option linter.unusedSimpArgs false
namespace Go.Proofs.W
open Go Vm Go.Proofs.Zs09

structure Pc where
  f : Int
  t : Int
  r : Int
def pcD (p : Pc) : D := .agg [.int .i64 p.f, .int .i64 p.t, .int .i64 p.r]
def pcsD (l : List Pc) : D := .sl false (l.map pcD)
theorem strip_pc (p : Pc) : strip (pcD p) = some (pcD p) := rfl
theorem strip_pcs (l : List Pc) : stripL (l.map pcD) = some (l.map pcD) := by
  induction l with
  | nil => rfl
  | cons q r ih => simp [stripL, ih, strip_pc]
theorem strip_pcsD (l : List Pc) : strip (pcsD l) = some (pcsD l) := by simp [pcsD, strip, strip_pcs]
theorem headPcs (l : List Pc) : headSize 3 (l.map pcD) = true := by cases l <;> rfl
theorem app_pc {m : Nat} {d : D} {H : Heap} {l : List Pc} (h : VecAt m d H (l.map pcD)) (x : Pc) (hl : l.length ≤ 1000000) : ∃ d' H', appendD Tryz.prog 26 (H ++ [Ob.arr [.agg [.int .i64 x.f, .int .i64 x.t, .int .i64 x.r]]]) d (.vec H.length 0 1) = some (d', H') ∧ VecAt m d' H' ((l ++ [x]).map pcD) ∧ Same m H H' := by
  have := VecAt.append el26 sz30 by30 zr30 rfl (by decide) h (q := pcD x) rfl rfl (headPcs l) (by simp; omega)
  simp only [List.map_append, List.map_cons, List.map_nil]
  exact this
theorem pc_get {l : List Pc} {i : Nat} (h : i < l.length) : (l.map pcD)[i]? = some (.agg [.int .i64 l[i].f, .int .i64 l[i].t, .int .i64 l[i].r]) := by simp [h, pcD]
/-- a word's pieces from a place on -/
def cutL (d : Dfa) (w : List Int) : Nat → Int → List Pc
  | 0, _ => []
  | n + 1, a => if a < w.length then ⟨a, if (longD d w a).1 < 0 then a + 1 else (longD d w a).1, (longD d w a).2⟩ :: cutL d w n (if (longD d w a).1 < 0 then a + 1 else (longD d w a).1) else []
theorem lg_cases (d : Dfa) : ∀ (w : List Int) (a p : Int) (er : Int × Int), lgD d a p w er = er ∨ (p < (lgD d a p w er).1 ∧ (lgD d a p w er).1 ≤ p + w.length ∧ 0 ≤ (lgD d a p w er).2)
  | [], a, p, er => .inl rfl
  | c :: w, a, p, er => by
    rw [lgD]
    split
    · exact .inl rfl
    · rcases lg_cases d w (nextD d a c) (p + 1) (if 0 ≤ ruleAt d (nextD d a c) then (p + 1, ruleAt d (nextD d a c)) else er) with h | ⟨h1, h2, h3⟩
      · rw [h]
        split
        · refine .inr ⟨by simp; omega, by simp only [List.length_cons]; omega, by assumption⟩
        · exact .inl rfl
      · exact .inr ⟨by omega, by simp only [List.length_cons]; omega, h3⟩
theorem long_cases (d : Dfa) (w : List Int) (f : Int) (h0 : 0 ≤ f) (h1 : f ≤ w.length) : ((longD d w f).1 = -1 ∧ (longD d w f).2 = -1) ∨ (f < (longD d w f).1 ∧ (longD d w f).1 ≤ w.length) := by
  unfold longD
  split
  · rcases lg_cases d (w.drop f.toNat) 0 f (-1, -1) with h | ⟨h2, h3, _⟩
    · rw [h]; exact .inl ⟨rfl, rfl⟩
    · rw [List.length_drop] at h3
      exact .inr ⟨h2, by omega⟩
  · exact .inl ⟨rfl, rfl⟩
theorem stripDwi' (d : Dfa) (w : List Int) (c : Int) : stripL [dfaD d, .sl false (w.map (.int .i64)), .int .i64 c] = some [dfaD d, .sl false (w.map (.int .i64)), .int .i64 c] := stripDwi d w c
theorem scut_ok (d : Dfa) (w : List Int) (ht : tyM d) (hs : d.next.length ≤ 1000000) (hs2 : d.rule.length ≤ 9223372036854775807) (hw : w.length ≤ 100000) : PureF Tryz.prog A 8 [dfaD d, isD w] (pcsD (if rightD d then cutL d w w.length 0 else [])) := by
  have a1 := dfa_noTup d
  have a2 := dfa_cells d
  have a3 := dfa_aggQ d
  have ew : isD w = .sl false (w.map (.int .i64)) := rfl
  refine evF_inB (n := 36) (rs := [.tmp 4]) Tryz.func8 rfl rfl rfl rfl rfl rfl ?_
  repeat' (first | refine wpB_seq ?_ | refine wpB_regionL rfl ?_ | refine wpB_block ?_ | refine wpB_skip ?_ | refine wpB_exit ?_ | refine wpB_ret ?_ | simp (maxSteps := 1000000) (dsimp := false) (disch := omega) only [go_sem, simprocAttr, *] | ((first | refine stepsB_both (fun hh => ?_) (fun hh => ?_) | refine stepsXB_both (fun hh => ?_) (fun hh => ?_)) <;> (try simp (maxSteps := 1000000) (dsimp := false) (disch := omega) only [go_sem, simprocAttr, decide_eq_true_eq, decide_eq_false_iff_not, Bool.not_eq_true, Bool.not_eq_false, Bool.not_eq_true', Bool.not_eq_false', Int.not_lt, Int.not_le, bne_iff_ne, bne_eq_false_iff_eq, beq_iff_eq, beq_eq_false_iff_ne, ne_eq, Int.ofNat_inj, Int.natCast_inj] at hh) <;> (try (exfalso; omega))) | (refine wpB_cond (by simp (maxSteps := 1000000) (dsimp := false) (disch := omega) only [go_sem, simprocAttr, *]; exact rfl) (fun hh => ?_) (fun hh => ?_) <;> (try simp (maxSteps := 1000000) (dsimp := false) (disch := omega) only [go_sem, simprocAttr, decide_eq_true_eq, decide_eq_false_iff_not, Bool.not_eq_true, Bool.not_eq_false, Bool.not_eq_true', Bool.not_eq_false', Int.not_lt, Int.not_le, bne_iff_ne, bne_eq_false_iff_eq, beq_iff_eq, beq_eq_false_iff_ne, ne_eq, Int.ofNat_inj, Int.natCast_inj] at hh) <;> (try (exfalso; omega))))
  refine evB_plain bo28 rfl rfl (stripD d) (dright_ok d ht hs hs2) ?_
  cases hr : rightD d with
  | false =>
    repeat' (first | refine wpB_seq ?_ | refine wpB_regionL rfl ?_ | refine wpB_block ?_ | refine wpB_skip ?_ | refine wpB_exit ?_ | refine wpB_ret ?_ | simp (maxSteps := 1000000) (dsimp := false) (disch := omega) only [go_sem, simprocAttr, *, pcsD] | ((first | refine stepsB_both (fun hh => ?_) (fun hh => ?_) | refine stepsXB_both (fun hh => ?_) (fun hh => ?_)) <;> (try simp (maxSteps := 1000000) (dsimp := false) (disch := omega) only [go_sem, simprocAttr, decide_eq_true_eq, decide_eq_false_iff_not, Bool.not_eq_true, Bool.not_eq_false, Bool.not_eq_true', Bool.not_eq_false', Int.not_lt, Int.not_le, bne_iff_ne, bne_eq_false_iff_eq, beq_iff_eq, beq_eq_false_iff_ne, ne_eq, Int.ofNat_inj, Int.natCast_inj] at hh) <;> (try (exfalso; omega))) | (refine wpB_cond (by simp (maxSteps := 1000000) (dsimp := false) (disch := omega) only [go_sem, simprocAttr, *, pcsD]; exact rfl) (fun hh => ?_) (fun hh => ?_) <;> (try simp (maxSteps := 1000000) (dsimp := false) (disch := omega) only [go_sem, simprocAttr, decide_eq_true_eq, decide_eq_false_iff_not, Bool.not_eq_true, Bool.not_eq_false, Bool.not_eq_true', Bool.not_eq_false', Int.not_lt, Int.not_le, bne_iff_ne, bne_eq_false_iff_eq, beq_iff_eq, beq_eq_false_iff_ne, ne_eq, Int.ofNat_inj, Int.natCast_inj] at hh) <;> (try (exfalso; omega))))
    rfl
  | true =>
    have hl := right_len hr
    rw [if_pos rfl]
    generalize hG : cutL d w w.length 0 = G
    replace hG : Hid (G = [] ++ cutL d w w.length 0) := hG.symm
    repeat' (first | refine wpB_seq ?_ | refine wpB_regionL rfl ?_ | refine wpB_block ?_ | refine wpB_skip ?_ | refine wpB_exit ?_ | refine wpB_ret ?_ | simp (maxSteps := 1000000) (dsimp := false) (disch := omega) only [go_sem, simprocAttr, *] | ((first | refine stepsB_both (fun hh => ?_) (fun hh => ?_) | refine stepsXB_both (fun hh => ?_) (fun hh => ?_)) <;> (try simp (maxSteps := 1000000) (dsimp := false) (disch := omega) only [go_sem, simprocAttr, decide_eq_true_eq, decide_eq_false_iff_not, Bool.not_eq_true, Bool.not_eq_false, Bool.not_eq_true', Bool.not_eq_false', Int.not_lt, Int.not_le, bne_iff_ne, bne_eq_false_iff_eq, beq_iff_eq, beq_eq_false_iff_ne, ne_eq, Int.ofNat_inj, Int.natCast_inj] at hh) <;> (try (exfalso; omega))) | (refine wpB_cond (by simp (maxSteps := 1000000) (dsimp := false) (disch := omega) only [go_sem, simprocAttr, *]; exact rfl) (fun hh => ?_) (fun hh => ?_) <;> (try simp (maxSteps := 1000000) (dsimp := false) (disch := omega) only [go_sem, simprocAttr, decide_eq_true_eq, decide_eq_false_iff_not, Bool.not_eq_true, Bool.not_eq_false, Bool.not_eq_true', Bool.not_eq_false', Int.not_lt, Int.not_le, bne_iff_ne, bne_eq_false_iff_eq, beq_iff_eq, beq_eq_false_iff_ne, ne_eq, Int.ofNat_inj, Int.natCast_inj] at hh) <;> (try (exfalso; omega))))
    refine wpB_loop (fun e H => ∃ (n : Nat) (a : Int) (out : List Pc), 0 ≤ a ∧ a ≤ w.length ∧ w.length ≤ a + n ∧ out.length ≤ a ∧ hget H 0 = .arr [dfaD d] ∧ e 1 = isD w ∧ e 2 = .ptr 0 0 0 ∧ VecAt 1 (e 5) H (out.map pcD) ∧ e 6 = .int .i64 a ∧ G = out ++ cutL d w n a) (fun e H => w.length - natOf (e 6)) ?_ ?_
    · exact ⟨w.length, 0, [], by omega, by omega, by omega, by simp, rfl, gs, gs, VecAt.nil (by simp), gs, hG⟩
    clear hG
    rintro e H ⟨n, a, out, ha0, ha1, hn, ho, h0, e1, e2, hv, e6, hG⟩ R hR
    by_cases hb : a < w.length
    case neg =>
      have hz : cutL d w n a = [] := by cases n <;> simp [cutL, hb]
      rw [hz, List.append_nil] at hG
      subst hG
      repeat' (first | refine wpB_seq ?_ | refine wpB_regionL rfl ?_ | refine wpB_block ?_ | refine wpB_skip ?_ | refine wpB_exit ?_ | refine wpB_ret ?_ | simp (maxSteps := 1000000) (dsimp := false) (disch := omega) only [go_sem, simprocAttr, *] | ((first | refine stepsB_both (fun hh => ?_) (fun hh => ?_) | refine stepsXB_both (fun hh => ?_) (fun hh => ?_)) <;> (try simp (maxSteps := 1000000) (dsimp := false) (disch := omega) only [go_sem, simprocAttr, decide_eq_true_eq, decide_eq_false_iff_not, Bool.not_eq_true, Bool.not_eq_false, Bool.not_eq_true', Bool.not_eq_false', Int.not_lt, Int.not_le, bne_iff_ne, bne_eq_false_iff_eq, beq_iff_eq, beq_eq_false_iff_ne, ne_eq, Int.ofNat_inj, Int.natCast_inj] at hh) <;> (try (exfalso; omega))) | (refine wpB_cond (by simp (maxSteps := 1000000) (dsimp := false) (disch := omega) only [go_sem, simprocAttr, *]; exact rfl) (fun hh => ?_) (fun hh => ?_) <;> (try simp (maxSteps := 1000000) (dsimp := false) (disch := omega) only [go_sem, simprocAttr, decide_eq_true_eq, decide_eq_false_iff_not, Bool.not_eq_true, Bool.not_eq_false, Bool.not_eq_true', Bool.not_eq_false', Int.not_lt, Int.not_le, bne_iff_ne, bne_eq_false_iff_eq, beq_iff_eq, beq_eq_false_iff_ne, ne_eq, Int.ofNat_inj, Int.natCast_inj] at hh) <;> (try (exfalso; omega))))
      exact hv.out (strip_pcs _)
    obtain ⟨n, rfl⟩ : ∃ x, n = x + 1 := ⟨n - 1, by omega⟩
    rw [cutL, if_pos hb] at hG
    have hlo := dlong_ok d w a ht hs hs2 (by omega)
    have hlc := long_cases d w a ha0 ha1
    generalize longD d w a = x at hlo hlc hG
    obtain ⟨x, y⟩ := x
    simp only at hlc hG
    replace hG : Hid (G = out ++ (⟨a, if x < 0 then a + 1 else x, y⟩ :: cutL d w n (if x < 0 then a + 1 else x))) := hG
    have hst := stripDwi d w a
    repeat' (first | refine wpB_seq ?_ | refine wpB_regionL rfl ?_ | refine wpB_block ?_ | refine wpB_skip ?_ | refine wpB_exit ?_ | refine wpB_ret ?_ | simp (maxSteps := 1000000) (dsimp := false) (disch := omega) only [go_sem, simprocAttr, *] | ((first | refine stepsB_both (fun hh => ?_) (fun hh => ?_) | refine stepsXB_both (fun hh => ?_) (fun hh => ?_)) <;> (try simp (maxSteps := 1000000) (dsimp := false) (disch := omega) only [go_sem, simprocAttr, decide_eq_true_eq, decide_eq_false_iff_not, Bool.not_eq_true, Bool.not_eq_false, Bool.not_eq_true', Bool.not_eq_false', Int.not_lt, Int.not_le, bne_iff_ne, bne_eq_false_iff_eq, beq_iff_eq, beq_eq_false_iff_ne, ne_eq, Int.ofNat_inj, Int.natCast_inj] at hh) <;> (try (exfalso; omega))) | (refine wpB_cond (by simp (maxSteps := 1000000) (dsimp := false) (disch := omega) only [go_sem, simprocAttr, *]; exact rfl) (fun hh => ?_) (fun hh => ?_) <;> (try simp (maxSteps := 1000000) (dsimp := false) (disch := omega) only [go_sem, simprocAttr, decide_eq_true_eq, decide_eq_false_iff_not, Bool.not_eq_true, Bool.not_eq_false, Bool.not_eq_true', Bool.not_eq_false', Int.not_lt, Int.not_le, bne_iff_ne, bne_eq_false_iff_eq, beq_iff_eq, beq_eq_false_iff_ne, ne_eq, Int.ofNat_inj, Int.natCast_inj] at hh) <;> (try (exfalso; omega))))
    refine evB_plain bo29 rfl rfl hst hlo ?_
    by_cases hx : x < 0
    · unfold Hid at hG
      rw [if_pos hx] at hG
      obtain ⟨d', H', hap, hv', hsm⟩ := app_pc hv ⟨a, a + 1, y⟩ (by omega)
      have h0' := hsm.2 0 (by omega)
      rw [h0] at h0'
      replace hG : Hid (G = out ++ (⟨a, a + 1, y⟩ :: cutL d w n (a + 1))) := hG
      repeat' (first | refine wpB_seq ?_ | refine wpB_regionL rfl ?_ | refine wpB_block ?_ | refine wpB_skip ?_ | refine wpB_exit ?_ | refine wpB_ret ?_ | simp (maxSteps := 1000000) (dsimp := false) (disch := omega) only [go_sem, simprocAttr, *, pairD] | ((first | refine stepsB_both (fun hh => ?_) (fun hh => ?_) | refine stepsXB_both (fun hh => ?_) (fun hh => ?_)) <;> (try simp (maxSteps := 1000000) (dsimp := false) (disch := omega) only [go_sem, simprocAttr, decide_eq_true_eq, decide_eq_false_iff_not, Bool.not_eq_true, Bool.not_eq_false, Bool.not_eq_true', Bool.not_eq_false', Int.not_lt, Int.not_le, bne_iff_ne, bne_eq_false_iff_eq, beq_iff_eq, beq_eq_false_iff_ne, ne_eq, Int.ofNat_inj, Int.natCast_inj] at hh) <;> (try (exfalso; omega))) | (refine wpB_cond (by simp (maxSteps := 1000000) (dsimp := false) (disch := omega) only [go_sem, simprocAttr, *, pairD]; exact rfl) (fun hh => ?_) (fun hh => ?_) <;> (try simp (maxSteps := 1000000) (dsimp := false) (disch := omega) only [go_sem, simprocAttr, decide_eq_true_eq, decide_eq_false_iff_not, Bool.not_eq_true, Bool.not_eq_false, Bool.not_eq_true', Bool.not_eq_false', Int.not_lt, Int.not_le, bne_iff_ne, bne_eq_false_iff_eq, beq_iff_eq, beq_eq_false_iff_ne, ne_eq, Int.ofNat_inj, Int.natCast_inj] at hh) <;> (try (exfalso; omega))))
      refine hR _ _ ⟨n, a + 1, out ++ [⟨a, a + 1, y⟩], by omega, by omega, by omega, by simp; omega, h0', gs, gs, ?_, gs, ?_⟩ ?_
      · show VecAt 1 d' H' _
        exact hv'
      · rw [show G = _ from hG]; simp
      · simp (maxSteps := 1000000) (dsimp := false) (disch := omega) only [go_sem, simprocAttr, *, natOf_int]
    · unfold Hid at hG
      rw [if_neg hx] at hG
      obtain ⟨d', H', hap, hv', hsm⟩ := app_pc hv ⟨a, x, y⟩ (by omega)
      have h0' := hsm.2 0 (by omega)
      rw [h0] at h0'
      replace hG : Hid (G = out ++ (⟨a, x, y⟩ :: cutL d w n x)) := hG
      have hx1 : a < x := by omega
      have hx2 : x ≤ w.length := by omega
      clear hlc
      repeat' (first | refine wpB_seq ?_ | refine wpB_regionL rfl ?_ | refine wpB_block ?_ | refine wpB_skip ?_ | refine wpB_exit ?_ | refine wpB_ret ?_ | simp (maxSteps := 1000000) (dsimp := false) (disch := omega) only [go_sem, simprocAttr, *, pairD] | ((first | refine stepsB_both (fun hh => ?_) (fun hh => ?_) | refine stepsXB_both (fun hh => ?_) (fun hh => ?_)) <;> (try simp (maxSteps := 1000000) (dsimp := false) (disch := omega) only [go_sem, simprocAttr, decide_eq_true_eq, decide_eq_false_iff_not, Bool.not_eq_true, Bool.not_eq_false, Bool.not_eq_true', Bool.not_eq_false', Int.not_lt, Int.not_le, bne_iff_ne, bne_eq_false_iff_eq, beq_iff_eq, beq_eq_false_iff_ne, ne_eq, Int.ofNat_inj, Int.natCast_inj] at hh) <;> (try (exfalso; omega))) | (refine wpB_cond (by simp (maxSteps := 1000000) (dsimp := false) (disch := omega) only [go_sem, simprocAttr, *, pairD]; exact rfl) (fun hh => ?_) (fun hh => ?_) <;> (try simp (maxSteps := 1000000) (dsimp := false) (disch := omega) only [go_sem, simprocAttr, decide_eq_true_eq, decide_eq_false_iff_not, Bool.not_eq_true, Bool.not_eq_false, Bool.not_eq_true', Bool.not_eq_false', Int.not_lt, Int.not_le, bne_iff_ne, bne_eq_false_iff_eq, beq_iff_eq, beq_eq_false_iff_ne, ne_eq, Int.ofNat_inj, Int.natCast_inj] at hh) <;> (try (exfalso; omega))))
      refine hR _ _ ⟨n, x, out ++ [⟨a, x, y⟩], by omega, by omega, by omega, by simp; omega, h0', gs, gs, ?_, gs, ?_⟩ ?_
      · show VecAt 1 d' H' _
        exact hv'
      · rw [show G = _ from hG]; simp
      · simp (maxSteps := 1000000) (dsimp := false) (disch := omega) only [go_sem, simprocAttr, *, natOf_int]
end Go.Proofs.W
end
/- Pieces: whether they are whole, whether two lists are the same; the document's pieces. -/
section
set_option maxHeartbeats 4000000
set_option linter.unusedVariables false
set_option linter.unusedSimpArgs false
namespace Go.Proofs.W
open Go Vm Go.Proofs.Zs09

theorem eqPc (xs ys : List D) : eqD Tryz.prog 30 (.agg xs) (.agg ys) = eqK [0, 0, 0] xs ys := by kernel_rfl
attribute [go_sem] eqPc eqK eqK1
def wholeB : Int → List Pc → Int → Bool
  | a, [], n => decide (a = n)
  | a, p :: l, n => (decide (p.f = a) && decide (p.f < p.t)) && wholeB p.t l n
theorem whole_ok (l : List Pc) (n : Int) (hl : l.length ≤ 1000000) : PureF Tryz.prog A 9 [pcsD l, .int .i64 n] (.bool (wholeB 0 l n)) := by
  refine evF_inB (n := 31) (rs := [.tmp 4]) Tryz.func9 rfl rfl rfl rfl rfl rfl ?_
  generalize hG : wholeB 0 l n = G
  replace hG : Hid (G = wholeB 0 (l.drop 0) n) := hG.symm
  repeat' (first | refine wpB_seq ?_ | refine wpB_regionL rfl ?_ | refine wpB_block ?_ | refine wpB_skip ?_ | refine wpB_exit ?_ | refine wpB_ret ?_ | simp (maxSteps := 1000000) (dsimp := false) (disch := omega) only [go_sem, simprocAttr, *, pcsD] | ((first | refine stepsB_both (fun hh => ?_) (fun hh => ?_) | refine stepsXB_both (fun hh => ?_) (fun hh => ?_)) <;> (try simp (maxSteps := 1000000) (dsimp := false) (disch := omega) only [go_sem, simprocAttr, decide_eq_true_eq, decide_eq_false_iff_not, Bool.not_eq_true, Bool.not_eq_false, Bool.not_eq_true', Bool.not_eq_false', Int.not_lt, Int.not_le, bne_iff_ne, bne_eq_false_iff_eq, beq_iff_eq, beq_eq_false_iff_ne, ne_eq, Int.ofNat_inj, Int.natCast_inj] at hh) <;> (try (exfalso; omega))) | (refine wpB_cond (by simp (maxSteps := 1000000) (dsimp := false) (disch := omega) only [go_sem, simprocAttr, *, pcsD]; exact rfl) (fun hh => ?_) (fun hh => ?_) <;> (try simp (maxSteps := 1000000) (dsimp := false) (disch := omega) only [go_sem, simprocAttr, decide_eq_true_eq, decide_eq_false_iff_not, Bool.not_eq_true, Bool.not_eq_false, Bool.not_eq_true', Bool.not_eq_false', Int.not_lt, Int.not_le, bne_iff_ne, bne_eq_false_iff_eq, beq_iff_eq, beq_eq_false_iff_ne, ne_eq, Int.ofNat_inj, Int.natCast_inj] at hh) <;> (try (exfalso; omega))))
  refine wpB_loop (fun e H => ∃ (j : Nat) (a : Int), j ≤ l.length ∧ e 1 = .int .i64 n ∧ e 5 = .int .i64 a ∧ e 8 = .sl false (l.map pcD) ∧ e 9 = .int .i64 l.length ∧ e 10 = .int .i64 j ∧ G = wholeB a (l.drop j) n) (fun e H => l.length - natOf (e 10)) ?_ ?_
  · exact ⟨0, 0, by omega, gs, gs, gs, gs, gs, hG⟩
  clear hG
  rintro e H ⟨j, a, hj, e1, e5, e8, e9, e10, ha⟩ R hR
  by_cases hb : j < l.length
  case neg =>
    rw [List.drop_eq_nil_of_le (by omega)] at ha
    have hz : G = decide (a = n) := ha
    clear ha
    by_cases h : a = n
    · have : G = true := by rw [hz]; simpa using h
      subst this
      clear hz
      subst h
      repeat' (first | refine wpB_seq ?_ | refine wpB_regionL rfl ?_ | refine wpB_block ?_ | refine wpB_skip ?_ | refine wpB_exit ?_ | refine wpB_ret ?_ | simp (maxSteps := 1000000) (dsimp := false) (disch := omega) only [go_sem, simprocAttr, *] | ((first | refine stepsB_both (fun hh => ?_) (fun hh => ?_) | refine stepsXB_both (fun hh => ?_) (fun hh => ?_)) <;> (try simp (maxSteps := 1000000) (dsimp := false) (disch := omega) only [go_sem, simprocAttr, decide_eq_true_eq, decide_eq_false_iff_not, Bool.not_eq_true, Bool.not_eq_false, Bool.not_eq_true', Bool.not_eq_false', Int.not_lt, Int.not_le, bne_iff_ne, bne_eq_false_iff_eq, beq_iff_eq, beq_eq_false_iff_ne, ne_eq, Int.ofNat_inj, Int.natCast_inj] at hh) <;> (try (exfalso; omega))) | (refine wpB_cond (by simp (maxSteps := 1000000) (dsimp := false) (disch := omega) only [go_sem, simprocAttr, *]; exact rfl) (fun hh => ?_) (fun hh => ?_) <;> (try simp (maxSteps := 1000000) (dsimp := false) (disch := omega) only [go_sem, simprocAttr, decide_eq_true_eq, decide_eq_false_iff_not, Bool.not_eq_true, Bool.not_eq_false, Bool.not_eq_true', Bool.not_eq_false', Int.not_lt, Int.not_le, bne_iff_ne, bne_eq_false_iff_eq, beq_iff_eq, beq_eq_false_iff_ne, ne_eq, Int.ofNat_inj, Int.natCast_inj] at hh) <;> (try (exfalso; omega))))
    · have : G = false := by rw [hz]; simpa using h
      subst this
      clear hz
      have hbe : (a == n) = false := by simpa using h
      repeat' (first | refine wpB_seq ?_ | refine wpB_regionL rfl ?_ | refine wpB_block ?_ | refine wpB_skip ?_ | refine wpB_exit ?_ | refine wpB_ret ?_ | simp (maxSteps := 1000000) (dsimp := false) (disch := omega) only [go_sem, simprocAttr, *] | ((first | refine stepsB_both (fun hh => ?_) (fun hh => ?_) | refine stepsXB_both (fun hh => ?_) (fun hh => ?_)) <;> (try simp (maxSteps := 1000000) (dsimp := false) (disch := omega) only [go_sem, simprocAttr, decide_eq_true_eq, decide_eq_false_iff_not, Bool.not_eq_true, Bool.not_eq_false, Bool.not_eq_true', Bool.not_eq_false', Int.not_lt, Int.not_le, bne_iff_ne, bne_eq_false_iff_eq, beq_iff_eq, beq_eq_false_iff_ne, ne_eq, Int.ofNat_inj, Int.natCast_inj] at hh) <;> (try (exfalso; omega))) | (refine wpB_cond (by simp (maxSteps := 1000000) (dsimp := false) (disch := omega) only [go_sem, simprocAttr, *]; exact rfl) (fun hh => ?_) (fun hh => ?_) <;> (try simp (maxSteps := 1000000) (dsimp := false) (disch := omega) only [go_sem, simprocAttr, decide_eq_true_eq, decide_eq_false_iff_not, Bool.not_eq_true, Bool.not_eq_false, Bool.not_eq_true', Bool.not_eq_false', Int.not_lt, Int.not_le, bne_iff_ne, bne_eq_false_iff_eq, beq_iff_eq, beq_eq_false_iff_ne, ne_eq, Int.ofNat_inj, Int.natCast_inj] at hh) <;> (try (exfalso; omega))))
  rw [List.drop_eq_getElem_cons hb, wholeB] at ha
  have hc := pc_get hb
  generalize l[j] = p at ha hc
  obtain ⟨pf, pt, pr⟩ := p
  simp only at hc ha
  replace ha : Hid (G = ((decide (pf = a) && decide (pf < pt)) && wholeB pt (l.drop (j + 1)) n)) := ha
  by_cases h1 : pf = a
  · subst h1
    by_cases h2 : pf < pt
    · repeat' (first | refine wpB_seq ?_ | refine wpB_regionL rfl ?_ | refine wpB_block ?_ | refine wpB_skip ?_ | refine wpB_exit ?_ | refine wpB_ret ?_ | simp (maxSteps := 1000000) (dsimp := false) (disch := omega) only [go_sem, simprocAttr, *] | ((first | refine stepsB_both (fun hh => ?_) (fun hh => ?_) | refine stepsXB_both (fun hh => ?_) (fun hh => ?_)) <;> (try simp (maxSteps := 1000000) (dsimp := false) (disch := omega) only [go_sem, simprocAttr, decide_eq_true_eq, decide_eq_false_iff_not, Bool.not_eq_true, Bool.not_eq_false, Bool.not_eq_true', Bool.not_eq_false', Int.not_lt, Int.not_le, bne_iff_ne, bne_eq_false_iff_eq, beq_iff_eq, beq_eq_false_iff_ne, ne_eq, Int.ofNat_inj, Int.natCast_inj] at hh) <;> (try (exfalso; omega))) | (refine wpB_cond (by simp (maxSteps := 1000000) (dsimp := false) (disch := omega) only [go_sem, simprocAttr, *]; exact rfl) (fun hh => ?_) (fun hh => ?_) <;> (try simp (maxSteps := 1000000) (dsimp := false) (disch := omega) only [go_sem, simprocAttr, decide_eq_true_eq, decide_eq_false_iff_not, Bool.not_eq_true, Bool.not_eq_false, Bool.not_eq_true', Bool.not_eq_false', Int.not_lt, Int.not_le, bne_iff_ne, bne_eq_false_iff_eq, beq_iff_eq, beq_eq_false_iff_ne, ne_eq, Int.ofNat_inj, Int.natCast_inj] at hh) <;> (try (exfalso; omega))))
      refine hR _ _ ⟨j + 1, pt, by omega, gs, gs, gs, gs, gs, ?_⟩ ?_
      · rw [show G = _ from ha]; simp [h2]
      · simp (maxSteps := 1000000) (dsimp := false) (disch := omega) only [go_sem, simprocAttr, *, natOf_int]
    · have : G = false := by rw [show G = _ from ha]; simp [h2]
      subst this
      clear ha
      repeat' (first | refine wpB_seq ?_ | refine wpB_regionL rfl ?_ | refine wpB_block ?_ | refine wpB_skip ?_ | refine wpB_exit ?_ | refine wpB_ret ?_ | simp (maxSteps := 1000000) (dsimp := false) (disch := omega) only [go_sem, simprocAttr, *] | ((first | refine stepsB_both (fun hh => ?_) (fun hh => ?_) | refine stepsXB_both (fun hh => ?_) (fun hh => ?_)) <;> (try simp (maxSteps := 1000000) (dsimp := false) (disch := omega) only [go_sem, simprocAttr, decide_eq_true_eq, decide_eq_false_iff_not, Bool.not_eq_true, Bool.not_eq_false, Bool.not_eq_true', Bool.not_eq_false', Int.not_lt, Int.not_le, bne_iff_ne, bne_eq_false_iff_eq, beq_iff_eq, beq_eq_false_iff_ne, ne_eq, Int.ofNat_inj, Int.natCast_inj] at hh) <;> (try (exfalso; omega))) | (refine wpB_cond (by simp (maxSteps := 1000000) (dsimp := false) (disch := omega) only [go_sem, simprocAttr, *]; exact rfl) (fun hh => ?_) (fun hh => ?_) <;> (try simp (maxSteps := 1000000) (dsimp := false) (disch := omega) only [go_sem, simprocAttr, decide_eq_true_eq, decide_eq_false_iff_not, Bool.not_eq_true, Bool.not_eq_false, Bool.not_eq_true', Bool.not_eq_false', Int.not_lt, Int.not_le, bne_iff_ne, bne_eq_false_iff_eq, beq_iff_eq, beq_eq_false_iff_ne, ne_eq, Int.ofNat_inj, Int.natCast_inj] at hh) <;> (try (exfalso; omega))))
  · have : G = false := by rw [show G = _ from ha]; simp [h1]
    subst this
    clear ha
    have hbe : (pf != a) = true := by simpa using h1
    repeat' (first | refine wpB_seq ?_ | refine wpB_regionL rfl ?_ | refine wpB_block ?_ | refine wpB_skip ?_ | refine wpB_exit ?_ | refine wpB_ret ?_ | simp (maxSteps := 1000000) (dsimp := false) (disch := omega) only [go_sem, simprocAttr, *] | ((first | refine stepsB_both (fun hh => ?_) (fun hh => ?_) | refine stepsXB_both (fun hh => ?_) (fun hh => ?_)) <;> (try simp (maxSteps := 1000000) (dsimp := false) (disch := omega) only [go_sem, simprocAttr, decide_eq_true_eq, decide_eq_false_iff_not, Bool.not_eq_true, Bool.not_eq_false, Bool.not_eq_true', Bool.not_eq_false', Int.not_lt, Int.not_le, bne_iff_ne, bne_eq_false_iff_eq, beq_iff_eq, beq_eq_false_iff_ne, ne_eq, Int.ofNat_inj, Int.natCast_inj] at hh) <;> (try (exfalso; omega))) | (refine wpB_cond (by simp (maxSteps := 1000000) (dsimp := false) (disch := omega) only [go_sem, simprocAttr, *]; exact rfl) (fun hh => ?_) (fun hh => ?_) <;> (try simp (maxSteps := 1000000) (dsimp := false) (disch := omega) only [go_sem, simprocAttr, decide_eq_true_eq, decide_eq_false_iff_not, Bool.not_eq_true, Bool.not_eq_false, Bool.not_eq_true', Bool.not_eq_false', Int.not_lt, Int.not_le, bne_iff_ne, bne_eq_false_iff_eq, beq_iff_eq, beq_eq_false_iff_ne, ne_eq, Int.ofNat_inj, Int.natCast_inj] at hh) <;> (try (exfalso; omega))))
theorem same_ok (a b : List Pc) (ha : a.length ≤ 100000) : PureF Tryz.prog A 11 [pcsD a, pcsD a] (.bool true) := by
  refine evF_inB (n := 26) (rs := [.tmp 4]) Tryz.func11 rfl rfl rfl rfl rfl rfl ?_
  repeat' (first | refine wpB_seq ?_ | refine wpB_regionL rfl ?_ | refine wpB_block ?_ | refine wpB_skip ?_ | refine wpB_exit ?_ | refine wpB_ret ?_ | simp (maxSteps := 1000000) (dsimp := false) (disch := omega) only [go_sem, simprocAttr, *, pcsD] | ((first | refine stepsB_both (fun hh => ?_) (fun hh => ?_) | refine stepsXB_both (fun hh => ?_) (fun hh => ?_)) <;> (try simp (maxSteps := 1000000) (dsimp := false) (disch := omega) only [go_sem, simprocAttr, decide_eq_true_eq, decide_eq_false_iff_not, Bool.not_eq_true, Bool.not_eq_false, Bool.not_eq_true', Bool.not_eq_false', Int.not_lt, Int.not_le, bne_iff_ne, bne_eq_false_iff_eq, beq_iff_eq, beq_eq_false_iff_ne, ne_eq, Int.ofNat_inj, Int.natCast_inj] at hh) <;> (try (exfalso; omega))) | (refine wpB_cond (by simp (maxSteps := 1000000) (dsimp := false) (disch := omega) only [go_sem, simprocAttr, *, pcsD]; exact rfl) (fun hh => ?_) (fun hh => ?_) <;> (try simp (maxSteps := 1000000) (dsimp := false) (disch := omega) only [go_sem, simprocAttr, decide_eq_true_eq, decide_eq_false_iff_not, Bool.not_eq_true, Bool.not_eq_false, Bool.not_eq_true', Bool.not_eq_false', Int.not_lt, Int.not_le, bne_iff_ne, bne_eq_false_iff_eq, beq_iff_eq, beq_eq_false_iff_ne, ne_eq, Int.ofNat_inj, Int.natCast_inj] at hh) <;> (try (exfalso; omega))))
  refine wpB_loop (fun e H => ∃ (j : Nat), j ≤ a.length ∧ e 0 = .sl false (a.map pcD) ∧ e 1 = .sl false (a.map pcD) ∧ e 5 = .int .i64 j) (fun e H => a.length - natOf (e 5)) ?_ ?_
  · exact ⟨0, by omega, gs, gs, gs⟩
  rintro e H ⟨j, hj, e0, e1, e5⟩ R hR
  by_cases hb : j < a.length
  case neg => repeat' (first | refine wpB_seq ?_ | refine wpB_regionL rfl ?_ | refine wpB_block ?_ | refine wpB_skip ?_ | refine wpB_exit ?_ | refine wpB_ret ?_ | simp (maxSteps := 1000000) (dsimp := false) (disch := omega) only [go_sem, simprocAttr, *] | ((first | refine stepsB_both (fun hh => ?_) (fun hh => ?_) | refine stepsXB_both (fun hh => ?_) (fun hh => ?_)) <;> (try simp (maxSteps := 1000000) (dsimp := false) (disch := omega) only [go_sem, simprocAttr, decide_eq_true_eq, decide_eq_false_iff_not, Bool.not_eq_true, Bool.not_eq_false, Bool.not_eq_true', Bool.not_eq_false', Int.not_lt, Int.not_le, bne_iff_ne, bne_eq_false_iff_eq, beq_iff_eq, beq_eq_false_iff_ne, ne_eq, Int.ofNat_inj, Int.natCast_inj] at hh) <;> (try (exfalso; omega))) | (refine wpB_cond (by simp (maxSteps := 1000000) (dsimp := false) (disch := omega) only [go_sem, simprocAttr, *]; exact rfl) (fun hh => ?_) (fun hh => ?_) <;> (try simp (maxSteps := 1000000) (dsimp := false) (disch := omega) only [go_sem, simprocAttr, decide_eq_true_eq, decide_eq_false_iff_not, Bool.not_eq_true, Bool.not_eq_false, Bool.not_eq_true', Bool.not_eq_false', Int.not_lt, Int.not_le, bne_iff_ne, bne_eq_false_iff_eq, beq_iff_eq, beq_eq_false_iff_ne, ne_eq, Int.ofNat_inj, Int.natCast_inj] at hh) <;> (try (exfalso; omega))))
  have hc := pc_get hb
  generalize a[j] = p at hc
  obtain ⟨pf, pt, pr⟩ := p
  simp only at hc
  have q1 : (pf == pf) = true := by simp
  have q2 : (pt == pt) = true := by simp
  have q3 : (pr == pr) = true := by simp
  repeat' (first | refine wpB_seq ?_ | refine wpB_regionL rfl ?_ | refine wpB_block ?_ | refine wpB_skip ?_ | refine wpB_exit ?_ | refine wpB_ret ?_ | simp (maxSteps := 1000000) (dsimp := false) (disch := omega) only [go_sem, simprocAttr, *] | ((first | refine stepsB_both (fun hh => ?_) (fun hh => ?_) | refine stepsXB_both (fun hh => ?_) (fun hh => ?_)) <;> (try simp (maxSteps := 1000000) (dsimp := false) (disch := omega) only [go_sem, simprocAttr, decide_eq_true_eq, decide_eq_false_iff_not, Bool.not_eq_true, Bool.not_eq_false, Bool.not_eq_true', Bool.not_eq_false', Int.not_lt, Int.not_le, bne_iff_ne, bne_eq_false_iff_eq, beq_iff_eq, beq_eq_false_iff_ne, ne_eq, Int.ofNat_inj, Int.natCast_inj] at hh) <;> (try (exfalso; omega))) | (refine wpB_cond (by simp (maxSteps := 1000000) (dsimp := false) (disch := omega) only [go_sem, simprocAttr, *]; exact rfl) (fun hh => ?_) (fun hh => ?_) <;> (try simp (maxSteps := 1000000) (dsimp := false) (disch := omega) only [go_sem, simprocAttr, decide_eq_true_eq, decide_eq_false_iff_not, Bool.not_eq_true, Bool.not_eq_false, Bool.not_eq_true', Bool.not_eq_false', Int.not_lt, Int.not_le, bne_iff_ne, bne_eq_false_iff_eq, beq_iff_eq, beq_eq_false_iff_ne, ne_eq, Int.ofNat_inj, Int.natCast_inj] at hh) <;> (try (exfalso; omega))))
  refine wpB_regionXL (prs := []) (by kernel_rfl) rfl (by kernel_rfl) ?_; simp (maxSteps := 1000000) (dsimp := false) (disch := omega) only [go_sem, simprocAttr, *]
  repeat' (first | refine wpB_seq ?_ | refine wpB_regionL rfl ?_ | refine wpB_block ?_ | refine wpB_skip ?_ | refine wpB_exit ?_ | refine wpB_ret ?_ | simp (maxSteps := 1000000) (dsimp := false) (disch := omega) only [go_sem, simprocAttr, *] | ((first | refine stepsB_both (fun hh => ?_) (fun hh => ?_) | refine stepsXB_both (fun hh => ?_) (fun hh => ?_)) <;> (try simp (maxSteps := 1000000) (dsimp := false) (disch := omega) only [go_sem, simprocAttr, decide_eq_true_eq, decide_eq_false_iff_not, Bool.not_eq_true, Bool.not_eq_false, Bool.not_eq_true', Bool.not_eq_false', Int.not_lt, Int.not_le, bne_iff_ne, bne_eq_false_iff_eq, beq_iff_eq, beq_eq_false_iff_ne, ne_eq, Int.ofNat_inj, Int.natCast_inj] at hh) <;> (try (exfalso; omega))) | (refine wpB_cond (by simp (maxSteps := 1000000) (dsimp := false) (disch := omega) only [go_sem, simprocAttr, *]; exact rfl) (fun hh => ?_) (fun hh => ?_) <;> (try simp (maxSteps := 1000000) (dsimp := false) (disch := omega) only [go_sem, simprocAttr, decide_eq_true_eq, decide_eq_false_iff_not, Bool.not_eq_true, Bool.not_eq_false, Bool.not_eq_true', Bool.not_eq_false', Int.not_lt, Int.not_le, bne_iff_ne, bne_eq_false_iff_eq, beq_iff_eq, beq_eq_false_iff_ne, ne_eq, Int.ofNat_inj, Int.natCast_inj] at hh) <;> (try (exfalso; omega))))
  refine hR _ _ ⟨j + 1, by omega, gs, gs, gs⟩ ?_
  simp (maxSteps := 1000000) (dsimp := false) (disch := omega) only [go_sem, simprocAttr, *, natOf_int]
theorem app_keep {t : TypeId} {H H' : Heap} {s x d' : D} {ys : List D} {k : Nat} (h : appendD Tryz.prog t H s x = some (d', H')) (hx : addedD H x = some (ys, H)) (hs : ∀ r ∈ objsD s, r ≠ k) (hk : k < H.length) : hget H' k = hget H k := by
  unfold appendD at h
  obtain ⟨e, _, h⟩ := bind_some h
  obtain ⟨n, _, h⟩ := bind_some h
  obtain ⟨w, _, h⟩ := bind_some h
  obtain ⟨z, _, h⟩ := bind_some h
  rw [hx] at h
  simp only [Option.bind_some] at h
  split at h
  · cases h
  split at h
  · split at h <;> cases h <;> rfl
  split at h
  · cases h
  split at h
  · split at h
    · cases h
      exact hget_app_lt hk
    · cases h
  · split at h
    · split at h
      · cases h
        rw [hget_app_lt (by simpa using hk), hget_set_ne (hs _ (by simp [objsD]))]
      · cases h
    · cases h
  · cases h
theorem added_pc {H : Heap} (p : Pc) : addedD (H ++ [Ob.arr [pcD p]]) (.vec H.length 0 1) = some ([pcD p], H ++ [Ob.arr [pcD p]]) := by
  have : pures (H ++ [Ob.arr [pcD p]]) [pcD p] = some ([pcD p], H ++ [Ob.arr [pcD p]]) := pures_strip (strip_pcs [p])
  simp [addedD, elems, hget_app0, hget_cons0, this, puresA, nilE_strip (strip_pc p)]
theorem rcut_ok (d : Dfa) (w : List Int) (ht : tyM d) (hr : rightD d = true) (hw : w.length ≤ 100000) : PureF Tryz.prog A 12 [dfaD d, isD w] (pcsD (cutL d w w.length 0)) := by
  have a1 := dfa_noTup d
  have a2 := dfa_cells d
  have a3 := dfa_aggQ d
  have ew : isD w = .sl false (w.map (.int .i64)) := rfl
  have hl := right_len hr
  refine evF_inB (n := 38) (rs := [.tmp 4]) Tryz.func12 rfl rfl rfl rfl rfl rfl ?_
  generalize hG : cutL d w w.length 0 = G
  replace hG : Hid (G = [] ++ cutL d w w.length 0) := hG.symm
  repeat' (first | refine wpB_seq ?_ | refine wpB_regionL rfl ?_ | refine wpB_block ?_ | refine wpB_skip ?_ | refine wpB_exit ?_ | refine wpB_ret ?_ | simp (maxSteps := 1000000) (dsimp := false) (disch := omega) only [go_sem, simprocAttr, *] | ((first | refine stepsB_both (fun hh => ?_) (fun hh => ?_) | refine stepsXB_both (fun hh => ?_) (fun hh => ?_)) <;> (try simp (maxSteps := 1000000) (dsimp := false) (disch := omega) only [go_sem, simprocAttr, decide_eq_true_eq, decide_eq_false_iff_not, Bool.not_eq_true, Bool.not_eq_false, Bool.not_eq_true', Bool.not_eq_false', Int.not_lt, Int.not_le, bne_iff_ne, bne_eq_false_iff_eq, beq_iff_eq, beq_eq_false_iff_ne, ne_eq, Int.ofNat_inj, Int.natCast_inj] at hh) <;> (try (exfalso; omega))) | (refine wpB_cond (by simp (maxSteps := 1000000) (dsimp := false) (disch := omega) only [go_sem, simprocAttr, *]; exact rfl) (fun hh => ?_) (fun hh => ?_) <;> (try simp (maxSteps := 1000000) (dsimp := false) (disch := omega) only [go_sem, simprocAttr, decide_eq_true_eq, decide_eq_false_iff_not, Bool.not_eq_true, Bool.not_eq_false, Bool.not_eq_true', Bool.not_eq_false', Int.not_lt, Int.not_le, bne_iff_ne, bne_eq_false_iff_eq, beq_iff_eq, beq_eq_false_iff_ne, ne_eq, Int.ofNat_inj, Int.natCast_inj] at hh) <;> (try (exfalso; omega))))
  refine wpB_loop (fun e H => ∃ (n : Nat) (a : Int) (out : List Pc), 0 ≤ a ∧ a ≤ w.length ∧ w.length ≤ a + n ∧ out.length ≤ a ∧ hget H 0 = .arr [dfaD d] ∧ e 1 = isD w ∧ e 2 = .ptr 0 0 0 ∧ VecAt 1 (e 5) H (out.map pcD) ∧ e 6 = .int .i64 a ∧ G = out ++ cutL d w n a) (fun e H => w.length - natOf (e 6)) ?_ ?_
  · exact ⟨w.length, 0, [], by omega, by omega, by omega, by simp, rfl, gs, gs, VecAt.nil (by simp), gs, hG⟩
  clear hG
  rintro e H ⟨n, a, out, ha0, ha1, hn, ho, h0, e1, e2, hv, e6, hG⟩ R hR
  by_cases hb : a < w.length
  case neg =>
    have hz : cutL d w n a = [] := by cases n <;> simp [cutL, hb]
    rw [hz, List.append_nil] at hG
    subst hG
    repeat' (first | refine wpB_seq ?_ | refine wpB_regionL rfl ?_ | refine wpB_block ?_ | refine wpB_skip ?_ | refine wpB_exit ?_ | refine wpB_ret ?_ | simp (maxSteps := 1000000) (dsimp := false) (disch := omega) only [go_sem, simprocAttr, *] | ((first | refine stepsB_both (fun hh => ?_) (fun hh => ?_) | refine stepsXB_both (fun hh => ?_) (fun hh => ?_)) <;> (try simp (maxSteps := 1000000) (dsimp := false) (disch := omega) only [go_sem, simprocAttr, decide_eq_true_eq, decide_eq_false_iff_not, Bool.not_eq_true, Bool.not_eq_false, Bool.not_eq_true', Bool.not_eq_false', Int.not_lt, Int.not_le, bne_iff_ne, bne_eq_false_iff_eq, beq_iff_eq, beq_eq_false_iff_ne, ne_eq, Int.ofNat_inj, Int.natCast_inj] at hh) <;> (try (exfalso; omega))) | (refine wpB_cond (by simp (maxSteps := 1000000) (dsimp := false) (disch := omega) only [go_sem, simprocAttr, *]; exact rfl) (fun hh => ?_) (fun hh => ?_) <;> (try simp (maxSteps := 1000000) (dsimp := false) (disch := omega) only [go_sem, simprocAttr, decide_eq_true_eq, decide_eq_false_iff_not, Bool.not_eq_true, Bool.not_eq_false, Bool.not_eq_true', Bool.not_eq_false', Int.not_lt, Int.not_le, bne_iff_ne, bne_eq_false_iff_eq, beq_iff_eq, beq_eq_false_iff_ne, ne_eq, Int.ofNat_inj, Int.natCast_inj] at hh) <;> (try (exfalso; omega))))
    exact hv.out (strip_pcs _)
  obtain ⟨n, rfl⟩ : ∃ x, n = x + 1 := ⟨n - 1, by omega⟩
  rw [cutL, if_pos hb] at hG
  have hlo := rlong_ok d w a ht hr (by omega)
  rw [long_ref hr] at hlo
  have hlc := long_cases d w a ha0 ha1
  generalize longD d w a = x at hlo hlc hG
  obtain ⟨x, y⟩ := x
  simp only at hlc hG
  replace hG : Hid (G = out ++ (⟨a, if x < 0 then a + 1 else x, y⟩ :: cutL d w n (if x < 0 then a + 1 else x))) := hG
  have hst := stripDwi d w a
  have hHl : 1 ≤ H.length := hv.1
  have fin : ∀ z : Int, z ≤ w.length → ∃ d' H', appendD Tryz.prog 26 (H ++ [Ob.arr [.agg [.int .i64 a, .int .i64 z, .int .i64 y]]] ++ [Ob.arr [.agg [.int .i64 a, .int .i64 z, .int .i64 y]]]) (e 5) (.vec (H.length + 1) 0 1) = some (d', H') ∧ VecAt 1 d' H' ((out ++ [(⟨a, z, y⟩ : Pc)]).map pcD) ∧ hget H' 0 = .arr [dfaD d] ∧ hget H' H.length = .arr [.agg [.int .i64 a, .int .i64 z, .int .i64 y]] := fun z hz => by
    have hv1 := hv.app (L := [Ob.arr [.agg [.int .i64 a, .int .i64 z, .int .i64 y]]])
    obtain ⟨d', H', hap, hv', hsm⟩ := app_pc hv1 ⟨a, z, y⟩ (by omega)
    have h0' := hsm.2 0 (by omega)
    rw [hget_app_lt (by omega), h0] at h0'
    rw [show (H ++ [Ob.arr [D.agg [.int .i64 a, .int .i64 z, .int .i64 y]]]).length = H.length + 1 by simp] at hap
    have hk := app_keep (k := H.length) hap (by simpa [pcD] using added_pc (H := H ++ [Ob.arr [D.agg [.int .i64 a, .int .i64 z, .int .i64 y]]]) ⟨a, z, y⟩) (fun r hr => by
      rcases hv with ⟨_, ⟨_, hd⟩ | ⟨_, r', _, hr', hd, _⟩⟩
      · rw [hd] at hr; cases hr
      · rw [hd] at hr; simp [objsD] at hr; omega) (by simp)
    rw [hget_app_lt (by simp), hget_app0] at hk
    exact ⟨d', H', hap, hv', h0', hk⟩
  by_cases hx : x < 0
  · have hy : y = -1 := by omega
    subst hy
    unfold Hid at hG
    rw [if_pos hx] at hG
    replace hG : Hid (G = out ++ (⟨a, a + 1, -1⟩ :: cutL d w n (a + 1))) := hG
    obtain ⟨d', H', hap, hv', h0', hk0⟩ := fin (a + 1) (by omega)
    clear fin
    repeat' (first | refine wpB_seq ?_ | refine wpB_regionL rfl ?_ | refine wpB_block ?_ | refine wpB_skip ?_ | refine wpB_exit ?_ | refine wpB_ret ?_ | simp (maxSteps := 1000000) (dsimp := false) (disch := omega) only [go_sem, simprocAttr, *] | ((first | refine stepsB_both (fun hh => ?_) (fun hh => ?_) | refine stepsXB_both (fun hh => ?_) (fun hh => ?_)) <;> (try simp (maxSteps := 1000000) (dsimp := false) (disch := omega) only [go_sem, simprocAttr, decide_eq_true_eq, decide_eq_false_iff_not, Bool.not_eq_true, Bool.not_eq_false, Bool.not_eq_true', Bool.not_eq_false', Int.not_lt, Int.not_le, bne_iff_ne, bne_eq_false_iff_eq, beq_iff_eq, beq_eq_false_iff_ne, ne_eq, Int.ofNat_inj, Int.natCast_inj] at hh) <;> (try (exfalso; omega))) | (refine wpB_cond (by simp (maxSteps := 1000000) (dsimp := false) (disch := omega) only [go_sem, simprocAttr, *]; exact rfl) (fun hh => ?_) (fun hh => ?_) <;> (try simp (maxSteps := 1000000) (dsimp := false) (disch := omega) only [go_sem, simprocAttr, decide_eq_true_eq, decide_eq_false_iff_not, Bool.not_eq_true, Bool.not_eq_false, Bool.not_eq_true', Bool.not_eq_false', Int.not_lt, Int.not_le, bne_iff_ne, bne_eq_false_iff_eq, beq_iff_eq, beq_eq_false_iff_ne, ne_eq, Int.ofNat_inj, Int.natCast_inj] at hh) <;> (try (exfalso; omega))))
    refine evB_plain bo30 rfl rfl hst hlo ?_
    repeat' (first | refine wpB_seq ?_ | refine wpB_regionL rfl ?_ | refine wpB_block ?_ | refine wpB_skip ?_ | refine wpB_exit ?_ | refine wpB_ret ?_ | simp (maxSteps := 1000000) (dsimp := false) (disch := omega) only [go_sem, simprocAttr, *, pairD] | ((first | refine stepsB_both (fun hh => ?_) (fun hh => ?_) | refine stepsXB_both (fun hh => ?_) (fun hh => ?_)) <;> (try simp (maxSteps := 1000000) (dsimp := false) (disch := omega) only [go_sem, simprocAttr, decide_eq_true_eq, decide_eq_false_iff_not, Bool.not_eq_true, Bool.not_eq_false, Bool.not_eq_true', Bool.not_eq_false', Int.not_lt, Int.not_le, bne_iff_ne, bne_eq_false_iff_eq, beq_iff_eq, beq_eq_false_iff_ne, ne_eq, Int.ofNat_inj, Int.natCast_inj] at hh) <;> (try (exfalso; omega))) | (refine wpB_cond (by simp (maxSteps := 1000000) (dsimp := false) (disch := omega) only [go_sem, simprocAttr, *, pairD]; exact rfl) (fun hh => ?_) (fun hh => ?_) <;> (try simp (maxSteps := 1000000) (dsimp := false) (disch := omega) only [go_sem, simprocAttr, decide_eq_true_eq, decide_eq_false_iff_not, Bool.not_eq_true, Bool.not_eq_false, Bool.not_eq_true', Bool.not_eq_false', Int.not_lt, Int.not_le, bne_iff_ne, bne_eq_false_iff_eq, beq_iff_eq, beq_eq_false_iff_ne, ne_eq, Int.ofNat_inj, Int.natCast_inj] at hh) <;> (try (exfalso; omega))))
    refine hR _ _ ⟨n, a + 1, out ++ [⟨a, a + 1, -1⟩], by omega, by omega, by omega, by simp; omega, h0', gs, gs, ?_, gs, ?_⟩ ?_
    · show VecAt 1 d' H' _
      exact hv'
    · rw [show G = _ from hG]; simp
    · simp (maxSteps := 1000000) (dsimp := false) (disch := omega) only [go_sem, simprocAttr, *, natOf_int]
  · unfold Hid at hG
    rw [if_neg hx] at hG
    replace hG : Hid (G = out ++ (⟨a, x, y⟩ :: cutL d w n x)) := hG
    have hx1 : a < x := by omega
    have hx2 : x ≤ w.length := by omega
    clear hlc
    obtain ⟨d', H', hap, hv', h0', hk0⟩ := fin x (by omega)
    clear fin
    repeat' (first | refine wpB_seq ?_ | refine wpB_regionL rfl ?_ | refine wpB_block ?_ | refine wpB_skip ?_ | refine wpB_exit ?_ | refine wpB_ret ?_ | simp (maxSteps := 1000000) (dsimp := false) (disch := omega) only [go_sem, simprocAttr, *] | ((first | refine stepsB_both (fun hh => ?_) (fun hh => ?_) | refine stepsXB_both (fun hh => ?_) (fun hh => ?_)) <;> (try simp (maxSteps := 1000000) (dsimp := false) (disch := omega) only [go_sem, simprocAttr, decide_eq_true_eq, decide_eq_false_iff_not, Bool.not_eq_true, Bool.not_eq_false, Bool.not_eq_true', Bool.not_eq_false', Int.not_lt, Int.not_le, bne_iff_ne, bne_eq_false_iff_eq, beq_iff_eq, beq_eq_false_iff_ne, ne_eq, Int.ofNat_inj, Int.natCast_inj] at hh) <;> (try (exfalso; omega))) | (refine wpB_cond (by simp (maxSteps := 1000000) (dsimp := false) (disch := omega) only [go_sem, simprocAttr, *]; exact rfl) (fun hh => ?_) (fun hh => ?_) <;> (try simp (maxSteps := 1000000) (dsimp := false) (disch := omega) only [go_sem, simprocAttr, decide_eq_true_eq, decide_eq_false_iff_not, Bool.not_eq_true, Bool.not_eq_false, Bool.not_eq_true', Bool.not_eq_false', Int.not_lt, Int.not_le, bne_iff_ne, bne_eq_false_iff_eq, beq_iff_eq, beq_eq_false_iff_ne, ne_eq, Int.ofNat_inj, Int.natCast_inj] at hh) <;> (try (exfalso; omega))))
    refine evB_plain bo30 rfl rfl hst hlo ?_
    repeat' (first | refine wpB_seq ?_ | refine wpB_regionL rfl ?_ | refine wpB_block ?_ | refine wpB_skip ?_ | refine wpB_exit ?_ | refine wpB_ret ?_ | simp (maxSteps := 1000000) (dsimp := false) (disch := omega) only [go_sem, simprocAttr, *, pairD] | ((first | refine stepsB_both (fun hh => ?_) (fun hh => ?_) | refine stepsXB_both (fun hh => ?_) (fun hh => ?_)) <;> (try simp (maxSteps := 1000000) (dsimp := false) (disch := omega) only [go_sem, simprocAttr, decide_eq_true_eq, decide_eq_false_iff_not, Bool.not_eq_true, Bool.not_eq_false, Bool.not_eq_true', Bool.not_eq_false', Int.not_lt, Int.not_le, bne_iff_ne, bne_eq_false_iff_eq, beq_iff_eq, beq_eq_false_iff_ne, ne_eq, Int.ofNat_inj, Int.natCast_inj] at hh) <;> (try (exfalso; omega))) | (refine wpB_cond (by simp (maxSteps := 1000000) (dsimp := false) (disch := omega) only [go_sem, simprocAttr, *, pairD]; exact rfl) (fun hh => ?_) (fun hh => ?_) <;> (try simp (maxSteps := 1000000) (dsimp := false) (disch := omega) only [go_sem, simprocAttr, decide_eq_true_eq, decide_eq_false_iff_not, Bool.not_eq_true, Bool.not_eq_false, Bool.not_eq_true', Bool.not_eq_false', Int.not_lt, Int.not_le, bne_iff_ne, bne_eq_false_iff_eq, beq_iff_eq, beq_eq_false_iff_ne, ne_eq, Int.ofNat_inj, Int.natCast_inj] at hh) <;> (try (exfalso; omega))))
    refine hR _ _ ⟨n, x, out ++ [⟨a, x, y⟩], by omega, by omega, by omega, by simp; omega, h0', gs, gs, ?_, gs, ?_⟩ ?_
    · show VecAt 1 d' H' _
      exact hv'
    · rw [show G = _ from hG]; simp
    · simp (maxSteps := 1000000) (dsimp := false) (disch := omega) only [go_sem, simprocAttr, *, natOf_int]
end Go.Proofs.W
end
/- The laws on pieces of words. -/
section
set_option maxHeartbeats 4000000
set_option linter.unusedVariables false
set_option linter.unusedSimpArgs false
namespace Go.Proofs.W
open Go Vm Go.Proofs.Zs09

theorem eqBl (x y : Bool) : eqD Tryz.prog 4 (.bool x) (.bool y) = some (x == y) := by kernel_rfl
attribute [go_sem] eqBl
/-- the law's own loop -/
def whF : Bool → Int → List Pc → Bool × Int
  | b, a, [] => (b, a)
  | b, a, p :: l => whF (b && decide (p.f = a) && decide (a < p.t)) p.t l
theorem whF_false : ∀ (l : List Pc) (a : Int), (whF false a l).1 = false
  | [], _ => rfl
  | p :: l, a => by simp only [whF, Bool.false_and]; exact whF_false l _
theorem whole_F : ∀ (l : List Pc) (a n : Int), wholeB a l n = ((whF true a l).1 && decide ((whF true a l).2 = n))
  | [], a, n => by show decide (a = n) = (true && decide (a = n)); rw [Bool.true_and]
  | p :: l, a, n => by
    simp only [wholeB, whF, Bool.true_and]
    by_cases h1 : p.f = a
    · subst h1
      by_cases h2 : p.f < p.t
      · simp only [decide_true, h2, Bool.true_and]; exact whole_F l _ _
      · simp only [decide_true, h2, decide_false, Bool.false_and, Bool.and_false, whF_false]
    · simp only [h1, decide_false, Bool.false_and, whF_false]
theorem cut_whole {d : Dfa} {w : List Int} : ∀ (n : Nat) (a : Int), 0 ≤ a → a ≤ w.length → w.length ≤ a + n → wholeB a (cutL d w n a) w.length = true
  | 0, a, h0, h1, h2 => by simp [cutL, wholeB]; omega
  | n + 1, a, h0, h1, h2 => by
    rw [cutL]
    have hlc := long_cases d w a h0 h1
    split
    · have hz : a < (if (longD d w a).1 < 0 then a + 1 else (longD d w a).1) ∧ (if (longD d w a).1 < 0 then a + 1 else (longD d w a).1) ≤ w.length := by split <;> omega
      generalize (if (longD d w a).1 < 0 then a + 1 else (longD d w a).1) = z at hz
      simp only [wholeB, decide_true, hz.1, Bool.true_and]
      exact cut_whole n z (by omega) hz.2 (by omega)
    · simp [wholeB]; omega
theorem cut_len {d : Dfa} {w : List Int} : ∀ (n : Nat) (a : Int), (cutL d w n a).length ≤ n
  | 0, a => by simp [cutL]
  | n + 1, a => by
    rw [cutL]
    split
    · simp only [List.length_cons]; have := cut_len (d := d) (w := w) n (if (longD d w a).1 < 0 then a + 1 else (longD d w a).1); omega
    · simp
theorem stripPn (l : List Pc) (n : Int) : stripL [pcsD l, .int .i64 n] = some [pcsD l, .int .i64 n] := strip2 (strip_pcsD l) rfl
theorem stripPP (a b : List Pc) : stripL [pcsD a, pcsD b] = some [pcsD a, pcsD b] := strip2 (strip_pcsD a) (strip_pcsD b)
theorem cuts_law (d : Dfa) (w : List Int) (l : List Pc) (long : Int) (ht : tyM d) (hs2 : d.rule.length ≤ 9223372036854775807) : Yes 3 [dfaD d, isD w, pcsD l, .int .i64 long] := by
  have a1 := dfa_noTup d
  have a2 := dfa_cells d
  have a3 := dfa_aggQ d
  have ew : isD w = .sl false (w.map (.int .i64)) := rfl
  refine evF_inB (n := 89) (rs := [.tmp 8]) Tryz.func3 rfl rfl rfl rfl rfl rfl ?_
  repeat' (first | refine wpB_seq ?_ | refine wpB_regionL rfl ?_ | refine wpB_block ?_ | refine wpB_skip ?_ | refine wpB_exit ?_ | refine wpB_ret ?_ | simp (maxSteps := 1000000) (dsimp := false) (disch := omega) only [go_sem, simprocAttr, *] | ((first | refine stepsB_both (fun hh => ?_) (fun hh => ?_) | refine stepsXB_both (fun hh => ?_) (fun hh => ?_)) <;> (try simp (maxSteps := 1000000) (dsimp := false) (disch := omega) only [go_sem, simprocAttr, decide_eq_true_eq, decide_eq_false_iff_not, Bool.not_eq_true, Bool.not_eq_false, Bool.not_eq_true', Bool.not_eq_false', Int.not_lt, Int.not_le, bne_iff_ne, bne_eq_false_iff_eq, beq_iff_eq, beq_eq_false_iff_ne, ne_eq, Int.ofNat_inj, Int.natCast_inj] at hh) <;> (try (exfalso; omega))) | (refine wpB_cond (by simp (maxSteps := 1000000) (dsimp := false) (disch := omega) only [go_sem, simprocAttr, *]; exact rfl) (fun hh => ?_) (fun hh => ?_) <;> (try simp (maxSteps := 1000000) (dsimp := false) (disch := omega) only [go_sem, simprocAttr, decide_eq_true_eq, decide_eq_false_iff_not, Bool.not_eq_true, Bool.not_eq_false, Bool.not_eq_true', Bool.not_eq_false', Int.not_lt, Int.not_le, bne_iff_ne, bne_eq_false_iff_eq, beq_iff_eq, beq_eq_false_iff_ne, ne_eq, Int.ofNat_inj, Int.natCast_inj] at hh) <;> (try (exfalso; omega))))
  refine evB_plain bo7 rfl rfl rfl alive_ok ?_
  by_cases hg : d.next.length ≤ 300 ∧ w.length ≤ 200 ∧ l.length ≤ 200
  case neg =>
    by_cases h1 : d.next.length ≤ 300
    · by_cases h2 : w.length ≤ 200
      · have h3 : ¬ l.length ≤ 200 := fun h => hg ⟨h1, h2, h⟩
        clear hg
        repeat' (first | refine wpB_seq ?_ | refine wpB_regionL rfl ?_ | refine wpB_block ?_ | refine wpB_skip ?_ | refine wpB_exit ?_ | refine wpB_ret ?_ | simp (maxSteps := 1000000) (dsimp := false) (disch := omega) only [go_sem, simprocAttr, *, pcsD] | ((first | refine stepsB_both (fun hh => ?_) (fun hh => ?_) | refine stepsXB_both (fun hh => ?_) (fun hh => ?_)) <;> (try simp (maxSteps := 1000000) (dsimp := false) (disch := omega) only [go_sem, simprocAttr, decide_eq_true_eq, decide_eq_false_iff_not, Bool.not_eq_true, Bool.not_eq_false, Bool.not_eq_true', Bool.not_eq_false', Int.not_lt, Int.not_le, bne_iff_ne, bne_eq_false_iff_eq, beq_iff_eq, beq_eq_false_iff_ne, ne_eq, Int.ofNat_inj, Int.natCast_inj] at hh) <;> (try (exfalso; omega))) | (refine wpB_cond (by simp (maxSteps := 1000000) (dsimp := false) (disch := omega) only [go_sem, simprocAttr, *, pcsD]; exact rfl) (fun hh => ?_) (fun hh => ?_) <;> (try simp (maxSteps := 1000000) (dsimp := false) (disch := omega) only [go_sem, simprocAttr, decide_eq_true_eq, decide_eq_false_iff_not, Bool.not_eq_true, Bool.not_eq_false, Bool.not_eq_true', Bool.not_eq_false', Int.not_lt, Int.not_le, bne_iff_ne, bne_eq_false_iff_eq, beq_iff_eq, beq_eq_false_iff_ne, ne_eq, Int.ofNat_inj, Int.natCast_inj] at hh) <;> (try (exfalso; omega))))
      · clear hg
        repeat' (first | refine wpB_seq ?_ | refine wpB_regionL rfl ?_ | refine wpB_block ?_ | refine wpB_skip ?_ | refine wpB_exit ?_ | refine wpB_ret ?_ | simp (maxSteps := 1000000) (dsimp := false) (disch := omega) only [go_sem, simprocAttr, *, pcsD] | ((first | refine stepsB_both (fun hh => ?_) (fun hh => ?_) | refine stepsXB_both (fun hh => ?_) (fun hh => ?_)) <;> (try simp (maxSteps := 1000000) (dsimp := false) (disch := omega) only [go_sem, simprocAttr, decide_eq_true_eq, decide_eq_false_iff_not, Bool.not_eq_true, Bool.not_eq_false, Bool.not_eq_true', Bool.not_eq_false', Int.not_lt, Int.not_le, bne_iff_ne, bne_eq_false_iff_eq, beq_iff_eq, beq_eq_false_iff_ne, ne_eq, Int.ofNat_inj, Int.natCast_inj] at hh) <;> (try (exfalso; omega))) | (refine wpB_cond (by simp (maxSteps := 1000000) (dsimp := false) (disch := omega) only [go_sem, simprocAttr, *, pcsD]; exact rfl) (fun hh => ?_) (fun hh => ?_) <;> (try simp (maxSteps := 1000000) (dsimp := false) (disch := omega) only [go_sem, simprocAttr, decide_eq_true_eq, decide_eq_false_iff_not, Bool.not_eq_true, Bool.not_eq_false, Bool.not_eq_true', Bool.not_eq_false', Int.not_lt, Int.not_le, bne_iff_ne, bne_eq_false_iff_eq, beq_iff_eq, beq_eq_false_iff_ne, ne_eq, Int.ofNat_inj, Int.natCast_inj] at hh) <;> (try (exfalso; omega))))
    · clear hg
      repeat' (first | refine wpB_seq ?_ | refine wpB_regionL rfl ?_ | refine wpB_block ?_ | refine wpB_skip ?_ | refine wpB_exit ?_ | refine wpB_ret ?_ | simp (maxSteps := 1000000) (dsimp := false) (disch := omega) only [go_sem, simprocAttr, *, pcsD] | ((first | refine stepsB_both (fun hh => ?_) (fun hh => ?_) | refine stepsXB_both (fun hh => ?_) (fun hh => ?_)) <;> (try simp (maxSteps := 1000000) (dsimp := false) (disch := omega) only [go_sem, simprocAttr, decide_eq_true_eq, decide_eq_false_iff_not, Bool.not_eq_true, Bool.not_eq_false, Bool.not_eq_true', Bool.not_eq_false', Int.not_lt, Int.not_le, bne_iff_ne, bne_eq_false_iff_eq, beq_iff_eq, beq_eq_false_iff_ne, ne_eq, Int.ofNat_inj, Int.natCast_inj] at hh) <;> (try (exfalso; omega))) | (refine wpB_cond (by simp (maxSteps := 1000000) (dsimp := false) (disch := omega) only [go_sem, simprocAttr, *, pcsD]; exact rfl) (fun hh => ?_) (fun hh => ?_) <;> (try simp (maxSteps := 1000000) (dsimp := false) (disch := omega) only [go_sem, simprocAttr, decide_eq_true_eq, decide_eq_false_iff_not, Bool.not_eq_true, Bool.not_eq_false, Bool.not_eq_true', Bool.not_eq_false', Int.not_lt, Int.not_le, bne_iff_ne, bne_eq_false_iff_eq, beq_iff_eq, beq_eq_false_iff_ne, ne_eq, Int.ofNat_inj, Int.natCast_inj] at hh) <;> (try (exfalso; omega))))
  obtain ⟨g1, g2, g3⟩ := hg
  have hcu := scut_ok d w ht (by omega) hs2 (by omega)
  have hri := rright_ok d ht (by omega) hs2
  have hwl := whole_ok l long (by omega)
  rw [whole_F] at hwl
  have s1 := stripD d
  have s2 := stripDw d w
  have s3 := stripPn l long
  generalize hB : whF true 0 l = B at hwl
  replace hB : Hid (B = whF true 0 (l.drop 0)) := hB.symm
  repeat' (first | refine wpB_seq ?_ | refine wpB_regionL rfl ?_ | refine wpB_block ?_ | refine wpB_skip ?_ | refine wpB_exit ?_ | refine wpB_ret ?_ | simp (maxSteps := 1000000) (dsimp := false) (disch := omega) only [go_sem, simprocAttr, *, pcsD] | ((first | refine stepsB_both (fun hh => ?_) (fun hh => ?_) | refine stepsXB_both (fun hh => ?_) (fun hh => ?_)) <;> (try simp (maxSteps := 1000000) (dsimp := false) (disch := omega) only [go_sem, simprocAttr, decide_eq_true_eq, decide_eq_false_iff_not, Bool.not_eq_true, Bool.not_eq_false, Bool.not_eq_true', Bool.not_eq_false', Int.not_lt, Int.not_le, bne_iff_ne, bne_eq_false_iff_eq, beq_iff_eq, beq_eq_false_iff_ne, ne_eq, Int.ofNat_inj, Int.natCast_inj] at hh) <;> (try (exfalso; omega))) | (refine wpB_cond (by simp (maxSteps := 1000000) (dsimp := false) (disch := omega) only [go_sem, simprocAttr, *, pcsD]; exact rfl) (fun hh => ?_) (fun hh => ?_) <;> (try simp (maxSteps := 1000000) (dsimp := false) (disch := omega) only [go_sem, simprocAttr, decide_eq_true_eq, decide_eq_false_iff_not, Bool.not_eq_true, Bool.not_eq_false, Bool.not_eq_true', Bool.not_eq_false', Int.not_lt, Int.not_le, bne_iff_ne, bne_eq_false_iff_eq, beq_iff_eq, beq_eq_false_iff_ne, ne_eq, Int.ofNat_inj, Int.natCast_inj] at hh) <;> (try (exfalso; omega))))
  refine evB_plain bo8 rfl rfl s2 hcu ?_
  generalize hP : (if rightD d = true then cutL d w w.length 0 else []) = P at hcu
  have epc : pcsD P = .sl false (P.map pcD) := rfl
  repeat' (first | refine wpB_seq ?_ | refine wpB_regionL rfl ?_ | refine wpB_block ?_ | refine wpB_skip ?_ | refine wpB_exit ?_ | refine wpB_ret ?_ | simp (maxSteps := 1000000) (dsimp := false) (disch := omega) only [go_sem, simprocAttr, *] | ((first | refine stepsB_both (fun hh => ?_) (fun hh => ?_) | refine stepsXB_both (fun hh => ?_) (fun hh => ?_)) <;> (try simp (maxSteps := 1000000) (dsimp := false) (disch := omega) only [go_sem, simprocAttr, decide_eq_true_eq, decide_eq_false_iff_not, Bool.not_eq_true, Bool.not_eq_false, Bool.not_eq_true', Bool.not_eq_false', Int.not_lt, Int.not_le, bne_iff_ne, bne_eq_false_iff_eq, beq_iff_eq, beq_eq_false_iff_ne, ne_eq, Int.ofNat_inj, Int.natCast_inj] at hh) <;> (try (exfalso; omega))) | (refine wpB_cond (by simp (maxSteps := 1000000) (dsimp := false) (disch := omega) only [go_sem, simprocAttr, *]; exact rfl) (fun hh => ?_) (fun hh => ?_) <;> (try simp (maxSteps := 1000000) (dsimp := false) (disch := omega) only [go_sem, simprocAttr, decide_eq_true_eq, decide_eq_false_iff_not, Bool.not_eq_true, Bool.not_eq_false, Bool.not_eq_true', Bool.not_eq_false', Int.not_lt, Int.not_le, bne_iff_ne, bne_eq_false_iff_eq, beq_iff_eq, beq_eq_false_iff_ne, ne_eq, Int.ofNat_inj, Int.natCast_inj] at hh) <;> (try (exfalso; omega))))
  refine wpB_loop (fun e H => ∃ (j : Nat) (a : Int) (b : Bool), j ≤ l.length ∧ hget H 0 = .arr [dfaD d] ∧ e 1 = isD w ∧ e 2 = .sl false (l.map pcD) ∧ e 3 = .int .i64 long ∧ e 4 = .ptr 0 0 0 ∧ e 9 = pcsD P ∧ e 10 = .int .i64 a ∧ e 11 = .bool b ∧ e 12 = .int .i64 j ∧ B = whF b a (l.drop j)) (fun e H => l.length - natOf (e 12)) ?_ ?_
  · exact ⟨0, 0, true, by omega, rfl, gs, by simp (maxSteps := 1000000) (dsimp := false) (disch := omega) only [go_sem, simprocAttr, *, pcsD], gs, gs, gs, gs, gs, gs, hB⟩
  clear hB
  rintro e H ⟨j, a, b, hj, h0, e1, e2, e3, e4, e9, e10, e11, e12, hB⟩ R hR
  by_cases hb : j < l.length
  · rw [List.drop_eq_getElem_cons hb, whF] at hB
    have hc := pc_get hb
    generalize l[j] = p at hB hc
    obtain ⟨pf, pt, pr⟩ := p
    simp only at hc hB
    replace hB : Hid (B = whF (b && decide (pf = a) && decide (a < pt)) pt (l.drop (j + 1))) := hB
    cases b with
    | false =>
      repeat' (first | refine wpB_seq ?_ | refine wpB_regionL rfl ?_ | refine wpB_block ?_ | refine wpB_skip ?_ | refine wpB_exit ?_ | refine wpB_ret ?_ | simp (maxSteps := 1000000) (dsimp := false) (disch := omega) only [go_sem, simprocAttr, *] | ((first | refine stepsB_both (fun hh => ?_) (fun hh => ?_) | refine stepsXB_both (fun hh => ?_) (fun hh => ?_)) <;> (try simp (maxSteps := 1000000) (dsimp := false) (disch := omega) only [go_sem, simprocAttr, decide_eq_true_eq, decide_eq_false_iff_not, Bool.not_eq_true, Bool.not_eq_false, Bool.not_eq_true', Bool.not_eq_false', Int.not_lt, Int.not_le, bne_iff_ne, bne_eq_false_iff_eq, beq_iff_eq, beq_eq_false_iff_ne, ne_eq, Int.ofNat_inj, Int.natCast_inj] at hh) <;> (try (exfalso; omega))) | (refine wpB_cond (by simp (maxSteps := 1000000) (dsimp := false) (disch := omega) only [go_sem, simprocAttr, *]; exact rfl) (fun hh => ?_) (fun hh => ?_) <;> (try simp (maxSteps := 1000000) (dsimp := false) (disch := omega) only [go_sem, simprocAttr, decide_eq_true_eq, decide_eq_false_iff_not, Bool.not_eq_true, Bool.not_eq_false, Bool.not_eq_true', Bool.not_eq_false', Int.not_lt, Int.not_le, bne_iff_ne, bne_eq_false_iff_eq, beq_iff_eq, beq_eq_false_iff_ne, ne_eq, Int.ofNat_inj, Int.natCast_inj] at hh) <;> (try (exfalso; omega))))
      refine hR _ _ ⟨j + 1, pt, false, by omega, gs, gs, gs, gs, gs, gs, gs, gs, gs, ?_⟩ ?_
      · rw [show B = _ from hB]; rfl
      · simp (maxSteps := 1000000) (dsimp := false) (disch := omega) only [go_sem, simprocAttr, *, natOf_int]
    | true =>
      by_cases h1 : pf = a
      · subst h1
        by_cases h2 : pf < pt
        · repeat' (first | refine wpB_seq ?_ | refine wpB_regionL rfl ?_ | refine wpB_block ?_ | refine wpB_skip ?_ | refine wpB_exit ?_ | refine wpB_ret ?_ | simp (maxSteps := 1000000) (dsimp := false) (disch := omega) only [go_sem, simprocAttr, *] | ((first | refine stepsB_both (fun hh => ?_) (fun hh => ?_) | refine stepsXB_both (fun hh => ?_) (fun hh => ?_)) <;> (try simp (maxSteps := 1000000) (dsimp := false) (disch := omega) only [go_sem, simprocAttr, decide_eq_true_eq, decide_eq_false_iff_not, Bool.not_eq_true, Bool.not_eq_false, Bool.not_eq_true', Bool.not_eq_false', Int.not_lt, Int.not_le, bne_iff_ne, bne_eq_false_iff_eq, beq_iff_eq, beq_eq_false_iff_ne, ne_eq, Int.ofNat_inj, Int.natCast_inj] at hh) <;> (try (exfalso; omega))) | (refine wpB_cond (by simp (maxSteps := 1000000) (dsimp := false) (disch := omega) only [go_sem, simprocAttr, *]; exact rfl) (fun hh => ?_) (fun hh => ?_) <;> (try simp (maxSteps := 1000000) (dsimp := false) (disch := omega) only [go_sem, simprocAttr, decide_eq_true_eq, decide_eq_false_iff_not, Bool.not_eq_true, Bool.not_eq_false, Bool.not_eq_true', Bool.not_eq_false', Int.not_lt, Int.not_le, bne_iff_ne, bne_eq_false_iff_eq, beq_iff_eq, beq_eq_false_iff_ne, ne_eq, Int.ofNat_inj, Int.natCast_inj] at hh) <;> (try (exfalso; omega))))
          refine hR _ _ ⟨j + 1, pt, true, by omega, gs, gs, gs, gs, gs, gs, gs, gs, gs, ?_⟩ ?_
          · rw [show B = _ from hB]; simp [h2]
          · simp (maxSteps := 1000000) (dsimp := false) (disch := omega) only [go_sem, simprocAttr, *, natOf_int]
        · repeat' (first | refine wpB_seq ?_ | refine wpB_regionL rfl ?_ | refine wpB_block ?_ | refine wpB_skip ?_ | refine wpB_exit ?_ | refine wpB_ret ?_ | simp (maxSteps := 1000000) (dsimp := false) (disch := omega) only [go_sem, simprocAttr, *] | ((first | refine stepsB_both (fun hh => ?_) (fun hh => ?_) | refine stepsXB_both (fun hh => ?_) (fun hh => ?_)) <;> (try simp (maxSteps := 1000000) (dsimp := false) (disch := omega) only [go_sem, simprocAttr, decide_eq_true_eq, decide_eq_false_iff_not, Bool.not_eq_true, Bool.not_eq_false, Bool.not_eq_true', Bool.not_eq_false', Int.not_lt, Int.not_le, bne_iff_ne, bne_eq_false_iff_eq, beq_iff_eq, beq_eq_false_iff_ne, ne_eq, Int.ofNat_inj, Int.natCast_inj] at hh) <;> (try (exfalso; omega))) | (refine wpB_cond (by simp (maxSteps := 1000000) (dsimp := false) (disch := omega) only [go_sem, simprocAttr, *]; exact rfl) (fun hh => ?_) (fun hh => ?_) <;> (try simp (maxSteps := 1000000) (dsimp := false) (disch := omega) only [go_sem, simprocAttr, decide_eq_true_eq, decide_eq_false_iff_not, Bool.not_eq_true, Bool.not_eq_false, Bool.not_eq_true', Bool.not_eq_false', Int.not_lt, Int.not_le, bne_iff_ne, bne_eq_false_iff_eq, beq_iff_eq, beq_eq_false_iff_ne, ne_eq, Int.ofNat_inj, Int.natCast_inj] at hh) <;> (try (exfalso; omega))))
          refine hR _ _ ⟨j + 1, pt, false, by omega, gs, gs, gs, gs, gs, gs, gs, gs, gs, ?_⟩ ?_
          · rw [show B = _ from hB]; simp [h2]
          · simp (maxSteps := 1000000) (dsimp := false) (disch := omega) only [go_sem, simprocAttr, *, natOf_int]
      · have hbe : (pf == a) = false := by simpa using h1
        repeat' (first | refine wpB_seq ?_ | refine wpB_regionL rfl ?_ | refine wpB_block ?_ | refine wpB_skip ?_ | refine wpB_exit ?_ | refine wpB_ret ?_ | simp (maxSteps := 1000000) (dsimp := false) (disch := omega) only [go_sem, simprocAttr, *] | ((first | refine stepsB_both (fun hh => ?_) (fun hh => ?_) | refine stepsXB_both (fun hh => ?_) (fun hh => ?_)) <;> (try simp (maxSteps := 1000000) (dsimp := false) (disch := omega) only [go_sem, simprocAttr, decide_eq_true_eq, decide_eq_false_iff_not, Bool.not_eq_true, Bool.not_eq_false, Bool.not_eq_true', Bool.not_eq_false', Int.not_lt, Int.not_le, bne_iff_ne, bne_eq_false_iff_eq, beq_iff_eq, beq_eq_false_iff_ne, ne_eq, Int.ofNat_inj, Int.natCast_inj] at hh) <;> (try (exfalso; omega))) | (refine wpB_cond (by simp (maxSteps := 1000000) (dsimp := false) (disch := omega) only [go_sem, simprocAttr, *]; exact rfl) (fun hh => ?_) (fun hh => ?_) <;> (try simp (maxSteps := 1000000) (dsimp := false) (disch := omega) only [go_sem, simprocAttr, decide_eq_true_eq, decide_eq_false_iff_not, Bool.not_eq_true, Bool.not_eq_false, Bool.not_eq_true', Bool.not_eq_false', Int.not_lt, Int.not_le, bne_iff_ne, bne_eq_false_iff_eq, beq_iff_eq, beq_eq_false_iff_ne, ne_eq, Int.ofNat_inj, Int.natCast_inj] at hh) <;> (try (exfalso; omega))))
        refine hR _ _ ⟨j + 1, pt, false, by omega, gs, gs, gs, gs, gs, gs, gs, gs, gs, ?_⟩ ?_
        · rw [show B = _ from hB]; simp [h1]
        · simp (maxSteps := 1000000) (dsimp := false) (disch := omega) only [go_sem, simprocAttr, *, natOf_int]
  · rw [List.drop_eq_nil_of_le (by omega)] at hB
    have hB2 : B = (b, a) := hB
    subst hB2
    clear hB
    simp only at hwl
    have etl : pcsD l = .sl false (l.map pcD) := rfl
    rw [etl] at hwl s3
    have fin : ∀ q : Bool, (b && decide (a = long)) = q → True := fun _ _ => trivial
    clear fin
    cases hr : rightD d with
    | false =>
      have hP0 : P = [] := by rw [← hP, hr]; rfl
      subst hP0
      rw [hr] at hri
      clear hP
      by_cases h1 : a = long
      · subst h1
        have hq : (b && decide (a = a)) = b := by simp
        rw [hq] at hwl
        cases b
        · repeat' (first | refine wpB_seq ?_ | refine wpB_regionL rfl ?_ | refine wpB_block ?_ | refine wpB_skip ?_ | refine wpB_exit ?_ | refine wpB_ret ?_ | simp (maxSteps := 1000000) (dsimp := false) (disch := omega) only [go_sem, simprocAttr, *] | ((first | refine stepsB_both (fun hh => ?_) (fun hh => ?_) | refine stepsXB_both (fun hh => ?_) (fun hh => ?_)) <;> (try simp (maxSteps := 1000000) (dsimp := false) (disch := omega) only [go_sem, simprocAttr, decide_eq_true_eq, decide_eq_false_iff_not, Bool.not_eq_true, Bool.not_eq_false, Bool.not_eq_true', Bool.not_eq_false', Int.not_lt, Int.not_le, bne_iff_ne, bne_eq_false_iff_eq, beq_iff_eq, beq_eq_false_iff_ne, ne_eq, Int.ofNat_inj, Int.natCast_inj] at hh) <;> (try (exfalso; omega))) | (refine wpB_cond (by simp (maxSteps := 1000000) (dsimp := false) (disch := omega) only [go_sem, simprocAttr, *]; exact rfl) (fun hh => ?_) (fun hh => ?_) <;> (try simp (maxSteps := 1000000) (dsimp := false) (disch := omega) only [go_sem, simprocAttr, decide_eq_true_eq, decide_eq_false_iff_not, Bool.not_eq_true, Bool.not_eq_false, Bool.not_eq_true', Bool.not_eq_false', Int.not_lt, Int.not_le, bne_iff_ne, bne_eq_false_iff_eq, beq_iff_eq, beq_eq_false_iff_ne, ne_eq, Int.ofNat_inj, Int.natCast_inj] at hh) <;> (try (exfalso; omega))))
          refine evB_plain bo9 rfl rfl s3 hwl ?_
          repeat' (first | refine wpB_seq ?_ | refine wpB_regionL rfl ?_ | refine wpB_block ?_ | refine wpB_skip ?_ | refine wpB_exit ?_ | refine wpB_ret ?_ | simp (maxSteps := 1000000) (dsimp := false) (disch := omega) only [go_sem, simprocAttr, *] | ((first | refine stepsB_both (fun hh => ?_) (fun hh => ?_) | refine stepsXB_both (fun hh => ?_) (fun hh => ?_)) <;> (try simp (maxSteps := 1000000) (dsimp := false) (disch := omega) only [go_sem, simprocAttr, decide_eq_true_eq, decide_eq_false_iff_not, Bool.not_eq_true, Bool.not_eq_false, Bool.not_eq_true', Bool.not_eq_false', Int.not_lt, Int.not_le, bne_iff_ne, bne_eq_false_iff_eq, beq_iff_eq, beq_eq_false_iff_ne, ne_eq, Int.ofNat_inj, Int.natCast_inj] at hh) <;> (try (exfalso; omega))) | (refine wpB_cond (by simp (maxSteps := 1000000) (dsimp := false) (disch := omega) only [go_sem, simprocAttr, *]; exact rfl) (fun hh => ?_) (fun hh => ?_) <;> (try simp (maxSteps := 1000000) (dsimp := false) (disch := omega) only [go_sem, simprocAttr, decide_eq_true_eq, decide_eq_false_iff_not, Bool.not_eq_true, Bool.not_eq_false, Bool.not_eq_true', Bool.not_eq_false', Int.not_lt, Int.not_le, bne_iff_ne, bne_eq_false_iff_eq, beq_iff_eq, beq_eq_false_iff_ne, ne_eq, Int.ofNat_inj, Int.natCast_inj] at hh) <;> (try (exfalso; omega))))
          refine evB_plain bo10 rfl rfl s1 hri ?_
          repeat' (first | refine wpB_seq ?_ | refine wpB_regionL rfl ?_ | refine wpB_block ?_ | refine wpB_skip ?_ | refine wpB_exit ?_ | refine wpB_ret ?_ | simp (maxSteps := 1000000) (dsimp := false) (disch := omega) only [go_sem, simprocAttr, *, pcsD] | ((first | refine stepsB_both (fun hh => ?_) (fun hh => ?_) | refine stepsXB_both (fun hh => ?_) (fun hh => ?_)) <;> (try simp (maxSteps := 1000000) (dsimp := false) (disch := omega) only [go_sem, simprocAttr, decide_eq_true_eq, decide_eq_false_iff_not, Bool.not_eq_true, Bool.not_eq_false, Bool.not_eq_true', Bool.not_eq_false', Int.not_lt, Int.not_le, bne_iff_ne, bne_eq_false_iff_eq, beq_iff_eq, beq_eq_false_iff_ne, ne_eq, Int.ofNat_inj, Int.natCast_inj] at hh) <;> (try (exfalso; omega))) | (refine wpB_cond (by simp (maxSteps := 1000000) (dsimp := false) (disch := omega) only [go_sem, simprocAttr, *, pcsD]; exact rfl) (fun hh => ?_) (fun hh => ?_) <;> (try simp (maxSteps := 1000000) (dsimp := false) (disch := omega) only [go_sem, simprocAttr, decide_eq_true_eq, decide_eq_false_iff_not, Bool.not_eq_true, Bool.not_eq_false, Bool.not_eq_true', Bool.not_eq_false', Int.not_lt, Int.not_le, bne_iff_ne, bne_eq_false_iff_eq, beq_iff_eq, beq_eq_false_iff_ne, ne_eq, Int.ofNat_inj, Int.natCast_inj] at hh) <;> (try (exfalso; omega))))
        · repeat' (first | refine wpB_seq ?_ | refine wpB_regionL rfl ?_ | refine wpB_block ?_ | refine wpB_skip ?_ | refine wpB_exit ?_ | refine wpB_ret ?_ | simp (maxSteps := 1000000) (dsimp := false) (disch := omega) only [go_sem, simprocAttr, *] | ((first | refine stepsB_both (fun hh => ?_) (fun hh => ?_) | refine stepsXB_both (fun hh => ?_) (fun hh => ?_)) <;> (try simp (maxSteps := 1000000) (dsimp := false) (disch := omega) only [go_sem, simprocAttr, decide_eq_true_eq, decide_eq_false_iff_not, Bool.not_eq_true, Bool.not_eq_false, Bool.not_eq_true', Bool.not_eq_false', Int.not_lt, Int.not_le, bne_iff_ne, bne_eq_false_iff_eq, beq_iff_eq, beq_eq_false_iff_ne, ne_eq, Int.ofNat_inj, Int.natCast_inj] at hh) <;> (try (exfalso; omega))) | (refine wpB_cond (by simp (maxSteps := 1000000) (dsimp := false) (disch := omega) only [go_sem, simprocAttr, *]; exact rfl) (fun hh => ?_) (fun hh => ?_) <;> (try simp (maxSteps := 1000000) (dsimp := false) (disch := omega) only [go_sem, simprocAttr, decide_eq_true_eq, decide_eq_false_iff_not, Bool.not_eq_true, Bool.not_eq_false, Bool.not_eq_true', Bool.not_eq_false', Int.not_lt, Int.not_le, bne_iff_ne, bne_eq_false_iff_eq, beq_iff_eq, beq_eq_false_iff_ne, ne_eq, Int.ofNat_inj, Int.natCast_inj] at hh) <;> (try (exfalso; omega))))
          refine evB_plain bo9 rfl rfl s3 hwl ?_
          repeat' (first | refine wpB_seq ?_ | refine wpB_regionL rfl ?_ | refine wpB_block ?_ | refine wpB_skip ?_ | refine wpB_exit ?_ | refine wpB_ret ?_ | simp (maxSteps := 1000000) (dsimp := false) (disch := omega) only [go_sem, simprocAttr, *] | ((first | refine stepsB_both (fun hh => ?_) (fun hh => ?_) | refine stepsXB_both (fun hh => ?_) (fun hh => ?_)) <;> (try simp (maxSteps := 1000000) (dsimp := false) (disch := omega) only [go_sem, simprocAttr, decide_eq_true_eq, decide_eq_false_iff_not, Bool.not_eq_true, Bool.not_eq_false, Bool.not_eq_true', Bool.not_eq_false', Int.not_lt, Int.not_le, bne_iff_ne, bne_eq_false_iff_eq, beq_iff_eq, beq_eq_false_iff_ne, ne_eq, Int.ofNat_inj, Int.natCast_inj] at hh) <;> (try (exfalso; omega))) | (refine wpB_cond (by simp (maxSteps := 1000000) (dsimp := false) (disch := omega) only [go_sem, simprocAttr, *]; exact rfl) (fun hh => ?_) (fun hh => ?_) <;> (try simp (maxSteps := 1000000) (dsimp := false) (disch := omega) only [go_sem, simprocAttr, decide_eq_true_eq, decide_eq_false_iff_not, Bool.not_eq_true, Bool.not_eq_false, Bool.not_eq_true', Bool.not_eq_false', Int.not_lt, Int.not_le, bne_iff_ne, bne_eq_false_iff_eq, beq_iff_eq, beq_eq_false_iff_ne, ne_eq, Int.ofNat_inj, Int.natCast_inj] at hh) <;> (try (exfalso; omega))))
          refine evB_plain bo10 rfl rfl s1 hri ?_
          repeat' (first | refine wpB_seq ?_ | refine wpB_regionL rfl ?_ | refine wpB_block ?_ | refine wpB_skip ?_ | refine wpB_exit ?_ | refine wpB_ret ?_ | simp (maxSteps := 1000000) (dsimp := false) (disch := omega) only [go_sem, simprocAttr, *, pcsD] | ((first | refine stepsB_both (fun hh => ?_) (fun hh => ?_) | refine stepsXB_both (fun hh => ?_) (fun hh => ?_)) <;> (try simp (maxSteps := 1000000) (dsimp := false) (disch := omega) only [go_sem, simprocAttr, decide_eq_true_eq, decide_eq_false_iff_not, Bool.not_eq_true, Bool.not_eq_false, Bool.not_eq_true', Bool.not_eq_false', Int.not_lt, Int.not_le, bne_iff_ne, bne_eq_false_iff_eq, beq_iff_eq, beq_eq_false_iff_ne, ne_eq, Int.ofNat_inj, Int.natCast_inj] at hh) <;> (try (exfalso; omega))) | (refine wpB_cond (by simp (maxSteps := 1000000) (dsimp := false) (disch := omega) only [go_sem, simprocAttr, *, pcsD]; exact rfl) (fun hh => ?_) (fun hh => ?_) <;> (try simp (maxSteps := 1000000) (dsimp := false) (disch := omega) only [go_sem, simprocAttr, decide_eq_true_eq, decide_eq_false_iff_not, Bool.not_eq_true, Bool.not_eq_false, Bool.not_eq_true', Bool.not_eq_false', Int.not_lt, Int.not_le, bne_iff_ne, bne_eq_false_iff_eq, beq_iff_eq, beq_eq_false_iff_ne, ne_eq, Int.ofNat_inj, Int.natCast_inj] at hh) <;> (try (exfalso; omega))))
      · have hq : (b && decide (a = long)) = false := by simp [h1]
        have hbe : (a == long) = false := by simpa using h1
        rw [hq] at hwl
        cases b
        · repeat' (first | refine wpB_seq ?_ | refine wpB_regionL rfl ?_ | refine wpB_block ?_ | refine wpB_skip ?_ | refine wpB_exit ?_ | refine wpB_ret ?_ | simp (maxSteps := 1000000) (dsimp := false) (disch := omega) only [go_sem, simprocAttr, *] | ((first | refine stepsB_both (fun hh => ?_) (fun hh => ?_) | refine stepsXB_both (fun hh => ?_) (fun hh => ?_)) <;> (try simp (maxSteps := 1000000) (dsimp := false) (disch := omega) only [go_sem, simprocAttr, decide_eq_true_eq, decide_eq_false_iff_not, Bool.not_eq_true, Bool.not_eq_false, Bool.not_eq_true', Bool.not_eq_false', Int.not_lt, Int.not_le, bne_iff_ne, bne_eq_false_iff_eq, beq_iff_eq, beq_eq_false_iff_ne, ne_eq, Int.ofNat_inj, Int.natCast_inj] at hh) <;> (try (exfalso; omega))) | (refine wpB_cond (by simp (maxSteps := 1000000) (dsimp := false) (disch := omega) only [go_sem, simprocAttr, *]; exact rfl) (fun hh => ?_) (fun hh => ?_) <;> (try simp (maxSteps := 1000000) (dsimp := false) (disch := omega) only [go_sem, simprocAttr, decide_eq_true_eq, decide_eq_false_iff_not, Bool.not_eq_true, Bool.not_eq_false, Bool.not_eq_true', Bool.not_eq_false', Int.not_lt, Int.not_le, bne_iff_ne, bne_eq_false_iff_eq, beq_iff_eq, beq_eq_false_iff_ne, ne_eq, Int.ofNat_inj, Int.natCast_inj] at hh) <;> (try (exfalso; omega))))
          refine evB_plain bo9 rfl rfl s3 hwl ?_
          repeat' (first | refine wpB_seq ?_ | refine wpB_regionL rfl ?_ | refine wpB_block ?_ | refine wpB_skip ?_ | refine wpB_exit ?_ | refine wpB_ret ?_ | simp (maxSteps := 1000000) (dsimp := false) (disch := omega) only [go_sem, simprocAttr, *] | ((first | refine stepsB_both (fun hh => ?_) (fun hh => ?_) | refine stepsXB_both (fun hh => ?_) (fun hh => ?_)) <;> (try simp (maxSteps := 1000000) (dsimp := false) (disch := omega) only [go_sem, simprocAttr, decide_eq_true_eq, decide_eq_false_iff_not, Bool.not_eq_true, Bool.not_eq_false, Bool.not_eq_true', Bool.not_eq_false', Int.not_lt, Int.not_le, bne_iff_ne, bne_eq_false_iff_eq, beq_iff_eq, beq_eq_false_iff_ne, ne_eq, Int.ofNat_inj, Int.natCast_inj] at hh) <;> (try (exfalso; omega))) | (refine wpB_cond (by simp (maxSteps := 1000000) (dsimp := false) (disch := omega) only [go_sem, simprocAttr, *]; exact rfl) (fun hh => ?_) (fun hh => ?_) <;> (try simp (maxSteps := 1000000) (dsimp := false) (disch := omega) only [go_sem, simprocAttr, decide_eq_true_eq, decide_eq_false_iff_not, Bool.not_eq_true, Bool.not_eq_false, Bool.not_eq_true', Bool.not_eq_false', Int.not_lt, Int.not_le, bne_iff_ne, bne_eq_false_iff_eq, beq_iff_eq, beq_eq_false_iff_ne, ne_eq, Int.ofNat_inj, Int.natCast_inj] at hh) <;> (try (exfalso; omega))))
          refine evB_plain bo10 rfl rfl s1 hri ?_
          repeat' (first | refine wpB_seq ?_ | refine wpB_regionL rfl ?_ | refine wpB_block ?_ | refine wpB_skip ?_ | refine wpB_exit ?_ | refine wpB_ret ?_ | simp (maxSteps := 1000000) (dsimp := false) (disch := omega) only [go_sem, simprocAttr, *, pcsD] | ((first | refine stepsB_both (fun hh => ?_) (fun hh => ?_) | refine stepsXB_both (fun hh => ?_) (fun hh => ?_)) <;> (try simp (maxSteps := 1000000) (dsimp := false) (disch := omega) only [go_sem, simprocAttr, decide_eq_true_eq, decide_eq_false_iff_not, Bool.not_eq_true, Bool.not_eq_false, Bool.not_eq_true', Bool.not_eq_false', Int.not_lt, Int.not_le, bne_iff_ne, bne_eq_false_iff_eq, beq_iff_eq, beq_eq_false_iff_ne, ne_eq, Int.ofNat_inj, Int.natCast_inj] at hh) <;> (try (exfalso; omega))) | (refine wpB_cond (by simp (maxSteps := 1000000) (dsimp := false) (disch := omega) only [go_sem, simprocAttr, *, pcsD]; exact rfl) (fun hh => ?_) (fun hh => ?_) <;> (try simp (maxSteps := 1000000) (dsimp := false) (disch := omega) only [go_sem, simprocAttr, decide_eq_true_eq, decide_eq_false_iff_not, Bool.not_eq_true, Bool.not_eq_false, Bool.not_eq_true', Bool.not_eq_false', Int.not_lt, Int.not_le, bne_iff_ne, bne_eq_false_iff_eq, beq_iff_eq, beq_eq_false_iff_ne, ne_eq, Int.ofNat_inj, Int.natCast_inj] at hh) <;> (try (exfalso; omega))))
        · repeat' (first | refine wpB_seq ?_ | refine wpB_regionL rfl ?_ | refine wpB_block ?_ | refine wpB_skip ?_ | refine wpB_exit ?_ | refine wpB_ret ?_ | simp (maxSteps := 1000000) (dsimp := false) (disch := omega) only [go_sem, simprocAttr, *] | ((first | refine stepsB_both (fun hh => ?_) (fun hh => ?_) | refine stepsXB_both (fun hh => ?_) (fun hh => ?_)) <;> (try simp (maxSteps := 1000000) (dsimp := false) (disch := omega) only [go_sem, simprocAttr, decide_eq_true_eq, decide_eq_false_iff_not, Bool.not_eq_true, Bool.not_eq_false, Bool.not_eq_true', Bool.not_eq_false', Int.not_lt, Int.not_le, bne_iff_ne, bne_eq_false_iff_eq, beq_iff_eq, beq_eq_false_iff_ne, ne_eq, Int.ofNat_inj, Int.natCast_inj] at hh) <;> (try (exfalso; omega))) | (refine wpB_cond (by simp (maxSteps := 1000000) (dsimp := false) (disch := omega) only [go_sem, simprocAttr, *]; exact rfl) (fun hh => ?_) (fun hh => ?_) <;> (try simp (maxSteps := 1000000) (dsimp := false) (disch := omega) only [go_sem, simprocAttr, decide_eq_true_eq, decide_eq_false_iff_not, Bool.not_eq_true, Bool.not_eq_false, Bool.not_eq_true', Bool.not_eq_false', Int.not_lt, Int.not_le, bne_iff_ne, bne_eq_false_iff_eq, beq_iff_eq, beq_eq_false_iff_ne, ne_eq, Int.ofNat_inj, Int.natCast_inj] at hh) <;> (try (exfalso; omega))))
          refine evB_plain bo9 rfl rfl s3 hwl ?_
          repeat' (first | refine wpB_seq ?_ | refine wpB_regionL rfl ?_ | refine wpB_block ?_ | refine wpB_skip ?_ | refine wpB_exit ?_ | refine wpB_ret ?_ | simp (maxSteps := 1000000) (dsimp := false) (disch := omega) only [go_sem, simprocAttr, *] | ((first | refine stepsB_both (fun hh => ?_) (fun hh => ?_) | refine stepsXB_both (fun hh => ?_) (fun hh => ?_)) <;> (try simp (maxSteps := 1000000) (dsimp := false) (disch := omega) only [go_sem, simprocAttr, decide_eq_true_eq, decide_eq_false_iff_not, Bool.not_eq_true, Bool.not_eq_false, Bool.not_eq_true', Bool.not_eq_false', Int.not_lt, Int.not_le, bne_iff_ne, bne_eq_false_iff_eq, beq_iff_eq, beq_eq_false_iff_ne, ne_eq, Int.ofNat_inj, Int.natCast_inj] at hh) <;> (try (exfalso; omega))) | (refine wpB_cond (by simp (maxSteps := 1000000) (dsimp := false) (disch := omega) only [go_sem, simprocAttr, *]; exact rfl) (fun hh => ?_) (fun hh => ?_) <;> (try simp (maxSteps := 1000000) (dsimp := false) (disch := omega) only [go_sem, simprocAttr, decide_eq_true_eq, decide_eq_false_iff_not, Bool.not_eq_true, Bool.not_eq_false, Bool.not_eq_true', Bool.not_eq_false', Int.not_lt, Int.not_le, bne_iff_ne, bne_eq_false_iff_eq, beq_iff_eq, beq_eq_false_iff_ne, ne_eq, Int.ofNat_inj, Int.natCast_inj] at hh) <;> (try (exfalso; omega))))
          refine evB_plain bo10 rfl rfl s1 hri ?_
          repeat' (first | refine wpB_seq ?_ | refine wpB_regionL rfl ?_ | refine wpB_block ?_ | refine wpB_skip ?_ | refine wpB_exit ?_ | refine wpB_ret ?_ | simp (maxSteps := 1000000) (dsimp := false) (disch := omega) only [go_sem, simprocAttr, *, pcsD] | ((first | refine stepsB_both (fun hh => ?_) (fun hh => ?_) | refine stepsXB_both (fun hh => ?_) (fun hh => ?_)) <;> (try simp (maxSteps := 1000000) (dsimp := false) (disch := omega) only [go_sem, simprocAttr, decide_eq_true_eq, decide_eq_false_iff_not, Bool.not_eq_true, Bool.not_eq_false, Bool.not_eq_true', Bool.not_eq_false', Int.not_lt, Int.not_le, bne_iff_ne, bne_eq_false_iff_eq, beq_iff_eq, beq_eq_false_iff_ne, ne_eq, Int.ofNat_inj, Int.natCast_inj] at hh) <;> (try (exfalso; omega))) | (refine wpB_cond (by simp (maxSteps := 1000000) (dsimp := false) (disch := omega) only [go_sem, simprocAttr, *, pcsD]; exact rfl) (fun hh => ?_) (fun hh => ?_) <;> (try simp (maxSteps := 1000000) (dsimp := false) (disch := omega) only [go_sem, simprocAttr, decide_eq_true_eq, decide_eq_false_iff_not, Bool.not_eq_true, Bool.not_eq_false, Bool.not_eq_true', Bool.not_eq_false', Int.not_lt, Int.not_le, bne_iff_ne, bne_eq_false_iff_eq, beq_iff_eq, beq_eq_false_iff_ne, ne_eq, Int.ofNat_inj, Int.natCast_inj] at hh) <;> (try (exfalso; omega))))
    | true =>
      have hP0 : P = cutL d w w.length 0 := by rw [← hP, hr]; rfl
      have hrc := rcut_ok d w ht hr (by omega)
      rw [← hP0] at hrc
      have hPl : P.length ≤ 100000 := by rw [hP0]; have := cut_len (d := d) (w := w) w.length 0; omega
      have hsa := same_ok P P hPl
      have hw2 := whole_ok P w.length (by omega)
      have hcw : wholeB 0 P w.length = true := by rw [hP0]; exact cut_whole w.length 0 (by omega) (by omega) (by omega)
      rw [hcw] at hw2
      rw [hr] at hri
      clear hP hP0 hcw
      have s5 := stripPP P P
      have s6 := stripPn P w.length
      by_cases h1 : a = long
      · subst h1
        have hq : (b && decide (a = a)) = b := by simp
        rw [hq] at hwl
        cases b
        all_goals
          repeat' (first | refine wpB_seq ?_ | refine wpB_regionL rfl ?_ | refine wpB_block ?_ | refine wpB_skip ?_ | refine wpB_exit ?_ | refine wpB_ret ?_ | simp (maxSteps := 1000000) (dsimp := false) (disch := omega) only [go_sem, simprocAttr, *] | ((first | refine stepsB_both (fun hh => ?_) (fun hh => ?_) | refine stepsXB_both (fun hh => ?_) (fun hh => ?_)) <;> (try simp (maxSteps := 1000000) (dsimp := false) (disch := omega) only [go_sem, simprocAttr, decide_eq_true_eq, decide_eq_false_iff_not, Bool.not_eq_true, Bool.not_eq_false, Bool.not_eq_true', Bool.not_eq_false', Int.not_lt, Int.not_le, bne_iff_ne, bne_eq_false_iff_eq, beq_iff_eq, beq_eq_false_iff_ne, ne_eq, Int.ofNat_inj, Int.natCast_inj] at hh) <;> (try (exfalso; omega))) | (refine wpB_cond (by simp (maxSteps := 1000000) (dsimp := false) (disch := omega) only [go_sem, simprocAttr, *]; exact rfl) (fun hh => ?_) (fun hh => ?_) <;> (try simp (maxSteps := 1000000) (dsimp := false) (disch := omega) only [go_sem, simprocAttr, decide_eq_true_eq, decide_eq_false_iff_not, Bool.not_eq_true, Bool.not_eq_false, Bool.not_eq_true', Bool.not_eq_false', Int.not_lt, Int.not_le, bne_iff_ne, bne_eq_false_iff_eq, beq_iff_eq, beq_eq_false_iff_ne, ne_eq, Int.ofNat_inj, Int.natCast_inj] at hh) <;> (try (exfalso; omega))))
          refine evB_plain bo9 rfl rfl s3 hwl ?_
          repeat' (first | refine wpB_seq ?_ | refine wpB_regionL rfl ?_ | refine wpB_block ?_ | refine wpB_skip ?_ | refine wpB_exit ?_ | refine wpB_ret ?_ | simp (maxSteps := 1000000) (dsimp := false) (disch := omega) only [go_sem, simprocAttr, *] | ((first | refine stepsB_both (fun hh => ?_) (fun hh => ?_) | refine stepsXB_both (fun hh => ?_) (fun hh => ?_)) <;> (try simp (maxSteps := 1000000) (dsimp := false) (disch := omega) only [go_sem, simprocAttr, decide_eq_true_eq, decide_eq_false_iff_not, Bool.not_eq_true, Bool.not_eq_false, Bool.not_eq_true', Bool.not_eq_false', Int.not_lt, Int.not_le, bne_iff_ne, bne_eq_false_iff_eq, beq_iff_eq, beq_eq_false_iff_ne, ne_eq, Int.ofNat_inj, Int.natCast_inj] at hh) <;> (try (exfalso; omega))) | (refine wpB_cond (by simp (maxSteps := 1000000) (dsimp := false) (disch := omega) only [go_sem, simprocAttr, *]; exact rfl) (fun hh => ?_) (fun hh => ?_) <;> (try simp (maxSteps := 1000000) (dsimp := false) (disch := omega) only [go_sem, simprocAttr, decide_eq_true_eq, decide_eq_false_iff_not, Bool.not_eq_true, Bool.not_eq_false, Bool.not_eq_true', Bool.not_eq_false', Int.not_lt, Int.not_le, bne_iff_ne, bne_eq_false_iff_eq, beq_iff_eq, beq_eq_false_iff_ne, ne_eq, Int.ofNat_inj, Int.natCast_inj] at hh) <;> (try (exfalso; omega))))
          refine evB_plain bo10 rfl rfl s1 hri ?_
          repeat' (first | refine wpB_seq ?_ | refine wpB_regionL rfl ?_ | refine wpB_block ?_ | refine wpB_skip ?_ | refine wpB_exit ?_ | refine wpB_ret ?_ | simp (maxSteps := 1000000) (dsimp := false) (disch := omega) only [go_sem, simprocAttr, *] | ((first | refine stepsB_both (fun hh => ?_) (fun hh => ?_) | refine stepsXB_both (fun hh => ?_) (fun hh => ?_)) <;> (try simp (maxSteps := 1000000) (dsimp := false) (disch := omega) only [go_sem, simprocAttr, decide_eq_true_eq, decide_eq_false_iff_not, Bool.not_eq_true, Bool.not_eq_false, Bool.not_eq_true', Bool.not_eq_false', Int.not_lt, Int.not_le, bne_iff_ne, bne_eq_false_iff_eq, beq_iff_eq, beq_eq_false_iff_ne, ne_eq, Int.ofNat_inj, Int.natCast_inj] at hh) <;> (try (exfalso; omega))) | (refine wpB_cond (by simp (maxSteps := 1000000) (dsimp := false) (disch := omega) only [go_sem, simprocAttr, *]; exact rfl) (fun hh => ?_) (fun hh => ?_) <;> (try simp (maxSteps := 1000000) (dsimp := false) (disch := omega) only [go_sem, simprocAttr, decide_eq_true_eq, decide_eq_false_iff_not, Bool.not_eq_true, Bool.not_eq_false, Bool.not_eq_true', Bool.not_eq_false', Int.not_lt, Int.not_le, bne_iff_ne, bne_eq_false_iff_eq, beq_iff_eq, beq_eq_false_iff_ne, ne_eq, Int.ofNat_inj, Int.natCast_inj] at hh) <;> (try (exfalso; omega))))
          refine evB_plain bo12 rfl rfl s2 hrc ?_
          repeat' (first | refine wpB_seq ?_ | refine wpB_regionL rfl ?_ | refine wpB_block ?_ | refine wpB_skip ?_ | refine wpB_exit ?_ | refine wpB_ret ?_ | simp (maxSteps := 1000000) (dsimp := false) (disch := omega) only [go_sem, simprocAttr, *] | ((first | refine stepsB_both (fun hh => ?_) (fun hh => ?_) | refine stepsXB_both (fun hh => ?_) (fun hh => ?_)) <;> (try simp (maxSteps := 1000000) (dsimp := false) (disch := omega) only [go_sem, simprocAttr, decide_eq_true_eq, decide_eq_false_iff_not, Bool.not_eq_true, Bool.not_eq_false, Bool.not_eq_true', Bool.not_eq_false', Int.not_lt, Int.not_le, bne_iff_ne, bne_eq_false_iff_eq, beq_iff_eq, beq_eq_false_iff_ne, ne_eq, Int.ofNat_inj, Int.natCast_inj] at hh) <;> (try (exfalso; omega))) | (refine wpB_cond (by simp (maxSteps := 1000000) (dsimp := false) (disch := omega) only [go_sem, simprocAttr, *]; exact rfl) (fun hh => ?_) (fun hh => ?_) <;> (try simp (maxSteps := 1000000) (dsimp := false) (disch := omega) only [go_sem, simprocAttr, decide_eq_true_eq, decide_eq_false_iff_not, Bool.not_eq_true, Bool.not_eq_false, Bool.not_eq_true', Bool.not_eq_false', Int.not_lt, Int.not_le, bne_iff_ne, bne_eq_false_iff_eq, beq_iff_eq, beq_eq_false_iff_ne, ne_eq, Int.ofNat_inj, Int.natCast_inj] at hh) <;> (try (exfalso; omega))))
          refine evB_plain bo11 rfl rfl s5 hsa ?_
          repeat' (first | refine wpB_seq ?_ | refine wpB_regionL rfl ?_ | refine wpB_block ?_ | refine wpB_skip ?_ | refine wpB_exit ?_ | refine wpB_ret ?_ | simp (maxSteps := 1000000) (dsimp := false) (disch := omega) only [go_sem, simprocAttr, *] | ((first | refine stepsB_both (fun hh => ?_) (fun hh => ?_) | refine stepsXB_both (fun hh => ?_) (fun hh => ?_)) <;> (try simp (maxSteps := 1000000) (dsimp := false) (disch := omega) only [go_sem, simprocAttr, decide_eq_true_eq, decide_eq_false_iff_not, Bool.not_eq_true, Bool.not_eq_false, Bool.not_eq_true', Bool.not_eq_false', Int.not_lt, Int.not_le, bne_iff_ne, bne_eq_false_iff_eq, beq_iff_eq, beq_eq_false_iff_ne, ne_eq, Int.ofNat_inj, Int.natCast_inj] at hh) <;> (try (exfalso; omega))) | (refine wpB_cond (by simp (maxSteps := 1000000) (dsimp := false) (disch := omega) only [go_sem, simprocAttr, *]; exact rfl) (fun hh => ?_) (fun hh => ?_) <;> (try simp (maxSteps := 1000000) (dsimp := false) (disch := omega) only [go_sem, simprocAttr, decide_eq_true_eq, decide_eq_false_iff_not, Bool.not_eq_true, Bool.not_eq_false, Bool.not_eq_true', Bool.not_eq_false', Int.not_lt, Int.not_le, bne_iff_ne, bne_eq_false_iff_eq, beq_iff_eq, beq_eq_false_iff_ne, ne_eq, Int.ofNat_inj, Int.natCast_inj] at hh) <;> (try (exfalso; omega))))
          refine evB_plain bo9 rfl rfl s6 hw2 ?_
          repeat' (first | refine wpB_seq ?_ | refine wpB_regionL rfl ?_ | refine wpB_block ?_ | refine wpB_skip ?_ | refine wpB_exit ?_ | refine wpB_ret ?_ | simp (maxSteps := 1000000) (dsimp := false) (disch := omega) only [go_sem, simprocAttr, *] | ((first | refine stepsB_both (fun hh => ?_) (fun hh => ?_) | refine stepsXB_both (fun hh => ?_) (fun hh => ?_)) <;> (try simp (maxSteps := 1000000) (dsimp := false) (disch := omega) only [go_sem, simprocAttr, decide_eq_true_eq, decide_eq_false_iff_not, Bool.not_eq_true, Bool.not_eq_false, Bool.not_eq_true', Bool.not_eq_false', Int.not_lt, Int.not_le, bne_iff_ne, bne_eq_false_iff_eq, beq_iff_eq, beq_eq_false_iff_ne, ne_eq, Int.ofNat_inj, Int.natCast_inj] at hh) <;> (try (exfalso; omega))) | (refine wpB_cond (by simp (maxSteps := 1000000) (dsimp := false) (disch := omega) only [go_sem, simprocAttr, *]; exact rfl) (fun hh => ?_) (fun hh => ?_) <;> (try simp (maxSteps := 1000000) (dsimp := false) (disch := omega) only [go_sem, simprocAttr, decide_eq_true_eq, decide_eq_false_iff_not, Bool.not_eq_true, Bool.not_eq_false, Bool.not_eq_true', Bool.not_eq_false', Int.not_lt, Int.not_le, bne_iff_ne, bne_eq_false_iff_eq, beq_iff_eq, beq_eq_false_iff_ne, ne_eq, Int.ofNat_inj, Int.natCast_inj] at hh) <;> (try (exfalso; omega))))
      · have hq : (b && decide (a = long)) = false := by simp [h1]
        have hbe : (a == long) = false := by simpa using h1
        rw [hq] at hwl
        cases b
        all_goals
          repeat' (first | refine wpB_seq ?_ | refine wpB_regionL rfl ?_ | refine wpB_block ?_ | refine wpB_skip ?_ | refine wpB_exit ?_ | refine wpB_ret ?_ | simp (maxSteps := 1000000) (dsimp := false) (disch := omega) only [go_sem, simprocAttr, *] | ((first | refine stepsB_both (fun hh => ?_) (fun hh => ?_) | refine stepsXB_both (fun hh => ?_) (fun hh => ?_)) <;> (try simp (maxSteps := 1000000) (dsimp := false) (disch := omega) only [go_sem, simprocAttr, decide_eq_true_eq, decide_eq_false_iff_not, Bool.not_eq_true, Bool.not_eq_false, Bool.not_eq_true', Bool.not_eq_false', Int.not_lt, Int.not_le, bne_iff_ne, bne_eq_false_iff_eq, beq_iff_eq, beq_eq_false_iff_ne, ne_eq, Int.ofNat_inj, Int.natCast_inj] at hh) <;> (try (exfalso; omega))) | (refine wpB_cond (by simp (maxSteps := 1000000) (dsimp := false) (disch := omega) only [go_sem, simprocAttr, *]; exact rfl) (fun hh => ?_) (fun hh => ?_) <;> (try simp (maxSteps := 1000000) (dsimp := false) (disch := omega) only [go_sem, simprocAttr, decide_eq_true_eq, decide_eq_false_iff_not, Bool.not_eq_true, Bool.not_eq_false, Bool.not_eq_true', Bool.not_eq_false', Int.not_lt, Int.not_le, bne_iff_ne, bne_eq_false_iff_eq, beq_iff_eq, beq_eq_false_iff_ne, ne_eq, Int.ofNat_inj, Int.natCast_inj] at hh) <;> (try (exfalso; omega))))
          refine evB_plain bo9 rfl rfl s3 hwl ?_
          repeat' (first | refine wpB_seq ?_ | refine wpB_regionL rfl ?_ | refine wpB_block ?_ | refine wpB_skip ?_ | refine wpB_exit ?_ | refine wpB_ret ?_ | simp (maxSteps := 1000000) (dsimp := false) (disch := omega) only [go_sem, simprocAttr, *] | ((first | refine stepsB_both (fun hh => ?_) (fun hh => ?_) | refine stepsXB_both (fun hh => ?_) (fun hh => ?_)) <;> (try simp (maxSteps := 1000000) (dsimp := false) (disch := omega) only [go_sem, simprocAttr, decide_eq_true_eq, decide_eq_false_iff_not, Bool.not_eq_true, Bool.not_eq_false, Bool.not_eq_true', Bool.not_eq_false', Int.not_lt, Int.not_le, bne_iff_ne, bne_eq_false_iff_eq, beq_iff_eq, beq_eq_false_iff_ne, ne_eq, Int.ofNat_inj, Int.natCast_inj] at hh) <;> (try (exfalso; omega))) | (refine wpB_cond (by simp (maxSteps := 1000000) (dsimp := false) (disch := omega) only [go_sem, simprocAttr, *]; exact rfl) (fun hh => ?_) (fun hh => ?_) <;> (try simp (maxSteps := 1000000) (dsimp := false) (disch := omega) only [go_sem, simprocAttr, decide_eq_true_eq, decide_eq_false_iff_not, Bool.not_eq_true, Bool.not_eq_false, Bool.not_eq_true', Bool.not_eq_false', Int.not_lt, Int.not_le, bne_iff_ne, bne_eq_false_iff_eq, beq_iff_eq, beq_eq_false_iff_ne, ne_eq, Int.ofNat_inj, Int.natCast_inj] at hh) <;> (try (exfalso; omega))))
          refine evB_plain bo10 rfl rfl s1 hri ?_
          repeat' (first | refine wpB_seq ?_ | refine wpB_regionL rfl ?_ | refine wpB_block ?_ | refine wpB_skip ?_ | refine wpB_exit ?_ | refine wpB_ret ?_ | simp (maxSteps := 1000000) (dsimp := false) (disch := omega) only [go_sem, simprocAttr, *] | ((first | refine stepsB_both (fun hh => ?_) (fun hh => ?_) | refine stepsXB_both (fun hh => ?_) (fun hh => ?_)) <;> (try simp (maxSteps := 1000000) (dsimp := false) (disch := omega) only [go_sem, simprocAttr, decide_eq_true_eq, decide_eq_false_iff_not, Bool.not_eq_true, Bool.not_eq_false, Bool.not_eq_true', Bool.not_eq_false', Int.not_lt, Int.not_le, bne_iff_ne, bne_eq_false_iff_eq, beq_iff_eq, beq_eq_false_iff_ne, ne_eq, Int.ofNat_inj, Int.natCast_inj] at hh) <;> (try (exfalso; omega))) | (refine wpB_cond (by simp (maxSteps := 1000000) (dsimp := false) (disch := omega) only [go_sem, simprocAttr, *]; exact rfl) (fun hh => ?_) (fun hh => ?_) <;> (try simp (maxSteps := 1000000) (dsimp := false) (disch := omega) only [go_sem, simprocAttr, decide_eq_true_eq, decide_eq_false_iff_not, Bool.not_eq_true, Bool.not_eq_false, Bool.not_eq_true', Bool.not_eq_false', Int.not_lt, Int.not_le, bne_iff_ne, bne_eq_false_iff_eq, beq_iff_eq, beq_eq_false_iff_ne, ne_eq, Int.ofNat_inj, Int.natCast_inj] at hh) <;> (try (exfalso; omega))))
          refine evB_plain bo12 rfl rfl s2 hrc ?_
          repeat' (first | refine wpB_seq ?_ | refine wpB_regionL rfl ?_ | refine wpB_block ?_ | refine wpB_skip ?_ | refine wpB_exit ?_ | refine wpB_ret ?_ | simp (maxSteps := 1000000) (dsimp := false) (disch := omega) only [go_sem, simprocAttr, *] | ((first | refine stepsB_both (fun hh => ?_) (fun hh => ?_) | refine stepsXB_both (fun hh => ?_) (fun hh => ?_)) <;> (try simp (maxSteps := 1000000) (dsimp := false) (disch := omega) only [go_sem, simprocAttr, decide_eq_true_eq, decide_eq_false_iff_not, Bool.not_eq_true, Bool.not_eq_false, Bool.not_eq_true', Bool.not_eq_false', Int.not_lt, Int.not_le, bne_iff_ne, bne_eq_false_iff_eq, beq_iff_eq, beq_eq_false_iff_ne, ne_eq, Int.ofNat_inj, Int.natCast_inj] at hh) <;> (try (exfalso; omega))) | (refine wpB_cond (by simp (maxSteps := 1000000) (dsimp := false) (disch := omega) only [go_sem, simprocAttr, *]; exact rfl) (fun hh => ?_) (fun hh => ?_) <;> (try simp (maxSteps := 1000000) (dsimp := false) (disch := omega) only [go_sem, simprocAttr, decide_eq_true_eq, decide_eq_false_iff_not, Bool.not_eq_true, Bool.not_eq_false, Bool.not_eq_true', Bool.not_eq_false', Int.not_lt, Int.not_le, bne_iff_ne, bne_eq_false_iff_eq, beq_iff_eq, beq_eq_false_iff_ne, ne_eq, Int.ofNat_inj, Int.natCast_inj] at hh) <;> (try (exfalso; omega))))
          refine evB_plain bo11 rfl rfl s5 hsa ?_
          repeat' (first | refine wpB_seq ?_ | refine wpB_regionL rfl ?_ | refine wpB_block ?_ | refine wpB_skip ?_ | refine wpB_exit ?_ | refine wpB_ret ?_ | simp (maxSteps := 1000000) (dsimp := false) (disch := omega) only [go_sem, simprocAttr, *] | ((first | refine stepsB_both (fun hh => ?_) (fun hh => ?_) | refine stepsXB_both (fun hh => ?_) (fun hh => ?_)) <;> (try simp (maxSteps := 1000000) (dsimp := false) (disch := omega) only [go_sem, simprocAttr, decide_eq_true_eq, decide_eq_false_iff_not, Bool.not_eq_true, Bool.not_eq_false, Bool.not_eq_true', Bool.not_eq_false', Int.not_lt, Int.not_le, bne_iff_ne, bne_eq_false_iff_eq, beq_iff_eq, beq_eq_false_iff_ne, ne_eq, Int.ofNat_inj, Int.natCast_inj] at hh) <;> (try (exfalso; omega))) | (refine wpB_cond (by simp (maxSteps := 1000000) (dsimp := false) (disch := omega) only [go_sem, simprocAttr, *]; exact rfl) (fun hh => ?_) (fun hh => ?_) <;> (try simp (maxSteps := 1000000) (dsimp := false) (disch := omega) only [go_sem, simprocAttr, decide_eq_true_eq, decide_eq_false_iff_not, Bool.not_eq_true, Bool.not_eq_false, Bool.not_eq_true', Bool.not_eq_false', Int.not_lt, Int.not_le, bne_iff_ne, bne_eq_false_iff_eq, beq_iff_eq, beq_eq_false_iff_ne, ne_eq, Int.ofNat_inj, Int.natCast_inj] at hh) <;> (try (exfalso; omega))))
          refine evB_plain bo9 rfl rfl s6 hw2 ?_
          repeat' (first | refine wpB_seq ?_ | refine wpB_regionL rfl ?_ | refine wpB_block ?_ | refine wpB_skip ?_ | refine wpB_exit ?_ | refine wpB_ret ?_ | simp (maxSteps := 1000000) (dsimp := false) (disch := omega) only [go_sem, simprocAttr, *] | ((first | refine stepsB_both (fun hh => ?_) (fun hh => ?_) | refine stepsXB_both (fun hh => ?_) (fun hh => ?_)) <;> (try simp (maxSteps := 1000000) (dsimp := false) (disch := omega) only [go_sem, simprocAttr, decide_eq_true_eq, decide_eq_false_iff_not, Bool.not_eq_true, Bool.not_eq_false, Bool.not_eq_true', Bool.not_eq_false', Int.not_lt, Int.not_le, bne_iff_ne, bne_eq_false_iff_eq, beq_iff_eq, beq_eq_false_iff_ne, ne_eq, Int.ofNat_inj, Int.natCast_inj] at hh) <;> (try (exfalso; omega))) | (refine wpB_cond (by simp (maxSteps := 1000000) (dsimp := false) (disch := omega) only [go_sem, simprocAttr, *]; exact rfl) (fun hh => ?_) (fun hh => ?_) <;> (try simp (maxSteps := 1000000) (dsimp := false) (disch := omega) only [go_sem, simprocAttr, decide_eq_true_eq, decide_eq_false_iff_not, Bool.not_eq_true, Bool.not_eq_false, Bool.not_eq_true', Bool.not_eq_false', Int.not_lt, Int.not_le, bne_iff_ne, bne_eq_false_iff_eq, beq_iff_eq, beq_eq_false_iff_ne, ne_eq, Int.ofNat_inj, Int.natCast_inj] at hh) <;> (try (exfalso; omega))))
end Go.Proofs.W
end
/- What is left of a word behind a piece is cut as it was. -/
section
set_option maxHeartbeats 4000000
set_option linter.unusedVariables false
set_option linter.unusedSimpArgs false
namespace Go.Proofs.W
open Go Vm Go.Proofs.Zs09

theorem long_at {d : Dfa} (hr : rightD d = true) (w : List Int) (f : Int) (h0 : 0 ≤ f) (h1 : f ≤ w.length) : longD d w f = match refA d 0 (w.drop f.toNat) (w.drop f.toNat).length with
    | none => (-1, -1)
    | some m => (f + m, ruleAt d (runD d 0 ((w.drop f.toNat).take m))) := by
  unfold longD
  rw [if_pos ⟨hr, h0, h1⟩, lg_ref _ _ _ _ _ (by omega)]
  all_goals (cases refA d 0 (w.drop f.toNat) (w.drop f.toNat).length <;> rfl)
theorem long_shift {d : Dfa} (hr : rightD d = true) (w : List Int) (a : Nat) (f : Int) (h0 : 0 ≤ f) (h1 : f + a ≤ w.length) : longD d (w.drop a) f = if (longD d w (f + a)).1 < 0 then (-1, -1) else ((longD d w (f + a)).1 - a, (longD d w (f + a)).2) := by
  rw [long_at hr (w.drop a) f h0 (by rw [List.length_drop]; omega), long_at hr w (f + a) (by omega) h1, List.drop_drop, show a + f.toNat = (f + a).toNat by omega]
  cases refA d 0 (w.drop (f + a).toNat) (w.drop (f + a).toNat).length with
  | none => rfl
  | some m =>
    simp only
    rw [if_neg (by omega)]
    congr 1
    omega
def shPc (a : Int) (p : Pc) : Pc := ⟨p.f - a, p.t - a, p.r⟩
theorem cut_shift {d : Dfa} (hr : rightD d = true) (w : List Int) (a : Nat) (ha : a ≤ w.length) : ∀ (n : Nat) (f : Int), 0 ≤ f → f + a ≤ w.length → cutL d (w.drop a) n f = (cutL d w n (f + a)).map (shPc a)
  | 0, f, _, _ => rfl
  | n + 1, f, h0, h1 => by
    rw [cutL, cutL, long_shift hr w a f h0 h1]
    have hlc := long_cases d w (f + a) (by omega) h1
    by_cases hb : f + a < w.length
    · rw [if_pos hb, if_pos (by rw [List.length_drop]; omega)]
      generalize longD d w (f + a) = x at hlc
      obtain ⟨x, y⟩ := x
      simp only at hlc ⊢
      by_cases hx : x < 0
      · rw [if_pos hx, if_pos hx, if_pos (by decide)]
        have hy : y = -1 := by omega
        subst hy
        rw [List.map_cons, cut_shift hr w a ha n (f + 1) (by omega) (by omega), show f + 1 + (a : Int) = f + a + 1 by omega]
        congr 1
        unfold shPc
        congr 1 <;> (simp only; omega)
      · rw [if_neg hx, if_neg hx, if_neg (by simp only; omega)]
        rw [List.map_cons]
        have := cut_shift hr w a ha n (x - a) (by omega) (by omega)
        simp only
        rw [this, show x - (a : Int) + a = x by omega]
        congr 1
        unfold shPc
        congr 1
        simp only; omega
    · rw [if_neg hb, if_neg (by rw [List.length_drop]; omega)]
      rfl
theorem cut_bd {d : Dfa} {w : List Int} : ∀ (n : Nat) (a : Int), 0 ≤ a → a ≤ w.length → ∀ p ∈ cutL d w n a, 0 ≤ p.f ∧ p.f < p.t ∧ p.t ≤ w.length
  | 0, a, _, _, p, h => by simp [cutL] at h
  | n + 1, a, h0, h1, p, h => by
    rw [cutL] at h
    have hlc := long_cases d w a h0 h1
    split at h
    · have hz : a < (if (longD d w a).1 < 0 then a + 1 else (longD d w a).1) ∧ (if (longD d w a).1 < 0 then a + 1 else (longD d w a).1) ≤ w.length := by split <;> omega
      generalize (if (longD d w a).1 < 0 then a + 1 else (longD d w a).1) = z at hz h
      rcases List.mem_cons.1 h with rfl | h
      · exact ⟨h0, hz.1, hz.2⟩
      · exact cut_bd n z (by omega) hz.2 p h
    · cases h
theorem cut_fuel {d : Dfa} {w : List Int} : ∀ (n m : Nat) (a : Int), 0 ≤ a → a ≤ w.length → w.length ≤ a + n → w.length ≤ a + m → cutL d w n a = cutL d w m a
  | 0, 0, a, _, _, _, _ => rfl
  | 0, m + 1, a, h0, h1, h2, h3 => by
    rw [cutL, cutL, if_neg (by omega)]
  | n + 1, 0, a, h0, h1, h2, h3 => by
    rw [cutL, cutL, if_neg (by omega)]
  | n + 1, m + 1, a, h0, h1, h2, h3 => by
    rw [cutL, cutL]
    have hlc := long_cases d w a h0 h1
    split
    · have hz : a < (if (longD d w a).1 < 0 then a + 1 else (longD d w a).1) ∧ (if (longD d w a).1 < 0 then a + 1 else (longD d w a).1) ≤ w.length := by split <;> omega
      generalize (if (longD d w a).1 < 0 then a + 1 else (longD d w a).1) = z at hz
      rw [cut_fuel n m z (by omega) hz.2 (by omega) (by omega)]
    · rfl
theorem cut_drop {d : Dfa} {w : List Int} : ∀ (n : Nat) (a : Int) (i : Nat) (h : i < (cutL d w n a).length), 0 ≤ a → a ≤ w.length → w.length ≤ a + n → (cutL d w n a).drop (i + 1) = cutL d w w.length ((cutL d w n a)[i]).t
  | 0, a, i, h, _, _, _ => by simp [cutL] at h
  | n + 1, a, i, h, h0, h1, h2 => by
    have hlc := long_cases d w a h0 h1
    by_cases hb : a < w.length
    · have he : cutL d w (n + 1) a = ⟨a, if (longD d w a).1 < 0 then a + 1 else (longD d w a).1, (longD d w a).2⟩ :: cutL d w n (if (longD d w a).1 < 0 then a + 1 else (longD d w a).1) := by rw [cutL, if_pos hb]
      have hz : a < (if (longD d w a).1 < 0 then a + 1 else (longD d w a).1) ∧ (if (longD d w a).1 < 0 then a + 1 else (longD d w a).1) ≤ w.length := by split <;> omega
      generalize (if (longD d w a).1 < 0 then a + 1 else (longD d w a).1) = z at hz he
      generalize (longD d w a).2 = y at he
      have hl : i < (⟨a, z, y⟩ :: cutL d w n z : List Pc).length := by rw [← he]; exact h
      have key : (⟨a, z, y⟩ :: cutL d w n z : List Pc).drop (i + 1) = cutL d w w.length ((⟨a, z, y⟩ :: cutL d w n z : List Pc)[i]'hl).t := by
        cases i with
        | zero =>
          simp only [List.drop_succ_cons, List.drop_zero, List.getElem_cons_zero]
          exact cut_fuel n w.length z (by omega) hz.2 (by omega) (by omega)
        | succ i =>
          simp only [List.drop_succ_cons, List.getElem_cons_succ]
          exact cut_drop n z i (by simpa using hl) (by omega) hz.2 (by omega)
      simp only [he]
      exact key
    · have he : cutL d w (n + 1) a = [] := by rw [cutL, if_neg hb]
      rw [he] at h
      simp at h
theorem rest_law (d : Dfa) (w : List Int) (k : Int) (ht : tyM d) (hk0 : 0 ≤ k) (hk1 : k < 256) (hs2 : d.rule.length ≤ 9223372036854775807) : Yes 6 [dfaD d, isD w, .int .u8 k] := by
  have a1 := dfa_noTup d
  have a2 := dfa_cells d
  have a3 := dfa_aggQ d
  have ew : isD w = .sl false (w.map (.int .i64)) := rfl
  refine evF_inB (n := 98) (rs := [.tmp 6]) Tryz.func6 rfl rfl rfl rfl rfl rfl ?_
  repeat' (first | refine wpB_seq ?_ | refine wpB_regionL rfl ?_ | refine wpB_block ?_ | refine wpB_skip ?_ | refine wpB_exit ?_ | refine wpB_ret ?_ | simp (maxSteps := 1000000) (dsimp := false) (disch := omega) only [go_sem, simprocAttr, *] | ((first | refine stepsB_both (fun hh => ?_) (fun hh => ?_) | refine stepsXB_both (fun hh => ?_) (fun hh => ?_)) <;> (try simp (maxSteps := 1000000) (dsimp := false) (disch := omega) only [go_sem, simprocAttr, decide_eq_true_eq, decide_eq_false_iff_not, Bool.not_eq_true, Bool.not_eq_false, Bool.not_eq_true', Bool.not_eq_false', Int.not_lt, Int.not_le, bne_iff_ne, bne_eq_false_iff_eq, beq_iff_eq, beq_eq_false_iff_ne, ne_eq, Int.ofNat_inj, Int.natCast_inj] at hh) <;> (try (exfalso; omega))) | (refine wpB_cond (by simp (maxSteps := 1000000) (dsimp := false) (disch := omega) only [go_sem, simprocAttr, *]; exact rfl) (fun hh => ?_) (fun hh => ?_) <;> (try simp (maxSteps := 1000000) (dsimp := false) (disch := omega) only [go_sem, simprocAttr, decide_eq_true_eq, decide_eq_false_iff_not, Bool.not_eq_true, Bool.not_eq_false, Bool.not_eq_true', Bool.not_eq_false', Int.not_lt, Int.not_le, bne_iff_ne, bne_eq_false_iff_eq, beq_iff_eq, beq_eq_false_iff_ne, ne_eq, Int.ofNat_inj, Int.natCast_inj] at hh) <;> (try (exfalso; omega))))
  refine evB_plain bo7 rfl rfl rfl alive_ok ?_
  by_cases hg : d.next.length ≤ 300 ∧ w.length ≤ 100
  case neg =>
    by_cases h1 : d.next.length ≤ 300
    · have h3 : ¬ w.length ≤ 100 := fun h => hg ⟨h1, h⟩
      clear hg
      repeat' (first | refine wpB_seq ?_ | refine wpB_regionL rfl ?_ | refine wpB_block ?_ | refine wpB_skip ?_ | refine wpB_exit ?_ | refine wpB_ret ?_ | simp (maxSteps := 1000000) (dsimp := false) (disch := omega) only [go_sem, simprocAttr, *] | ((first | refine stepsB_both (fun hh => ?_) (fun hh => ?_) | refine stepsXB_both (fun hh => ?_) (fun hh => ?_)) <;> (try simp (maxSteps := 1000000) (dsimp := false) (disch := omega) only [go_sem, simprocAttr, decide_eq_true_eq, decide_eq_false_iff_not, Bool.not_eq_true, Bool.not_eq_false, Bool.not_eq_true', Bool.not_eq_false', Int.not_lt, Int.not_le, bne_iff_ne, bne_eq_false_iff_eq, beq_iff_eq, beq_eq_false_iff_ne, ne_eq, Int.ofNat_inj, Int.natCast_inj] at hh) <;> (try (exfalso; omega))) | (refine wpB_cond (by simp (maxSteps := 1000000) (dsimp := false) (disch := omega) only [go_sem, simprocAttr, *]; exact rfl) (fun hh => ?_) (fun hh => ?_) <;> (try simp (maxSteps := 1000000) (dsimp := false) (disch := omega) only [go_sem, simprocAttr, decide_eq_true_eq, decide_eq_false_iff_not, Bool.not_eq_true, Bool.not_eq_false, Bool.not_eq_true', Bool.not_eq_false', Int.not_lt, Int.not_le, bne_iff_ne, bne_eq_false_iff_eq, beq_iff_eq, beq_eq_false_iff_ne, ne_eq, Int.ofNat_inj, Int.natCast_inj] at hh) <;> (try (exfalso; omega))))
    · clear hg
      repeat' (first | refine wpB_seq ?_ | refine wpB_regionL rfl ?_ | refine wpB_block ?_ | refine wpB_skip ?_ | refine wpB_exit ?_ | refine wpB_ret ?_ | simp (maxSteps := 1000000) (dsimp := false) (disch := omega) only [go_sem, simprocAttr, *] | ((first | refine stepsB_both (fun hh => ?_) (fun hh => ?_) | refine stepsXB_both (fun hh => ?_) (fun hh => ?_)) <;> (try simp (maxSteps := 1000000) (dsimp := false) (disch := omega) only [go_sem, simprocAttr, decide_eq_true_eq, decide_eq_false_iff_not, Bool.not_eq_true, Bool.not_eq_false, Bool.not_eq_true', Bool.not_eq_false', Int.not_lt, Int.not_le, bne_iff_ne, bne_eq_false_iff_eq, beq_iff_eq, beq_eq_false_iff_ne, ne_eq, Int.ofNat_inj, Int.natCast_inj] at hh) <;> (try (exfalso; omega))) | (refine wpB_cond (by simp (maxSteps := 1000000) (dsimp := false) (disch := omega) only [go_sem, simprocAttr, *]; exact rfl) (fun hh => ?_) (fun hh => ?_) <;> (try simp (maxSteps := 1000000) (dsimp := false) (disch := omega) only [go_sem, simprocAttr, decide_eq_true_eq, decide_eq_false_iff_not, Bool.not_eq_true, Bool.not_eq_false, Bool.not_eq_true', Bool.not_eq_false', Int.not_lt, Int.not_le, bne_iff_ne, bne_eq_false_iff_eq, beq_iff_eq, beq_eq_false_iff_ne, ne_eq, Int.ofNat_inj, Int.natCast_inj] at hh) <;> (try (exfalso; omega))))
  obtain ⟨g1, g2⟩ := hg
  have hcu := scut_ok d w ht (by omega) hs2 (by omega)
  have s2 := stripDw d w
  repeat' (first | refine wpB_seq ?_ | refine wpB_regionL rfl ?_ | refine wpB_block ?_ | refine wpB_skip ?_ | refine wpB_exit ?_ | refine wpB_ret ?_ | simp (maxSteps := 1000000) (dsimp := false) (disch := omega) only [go_sem, simprocAttr, *] | ((first | refine stepsB_both (fun hh => ?_) (fun hh => ?_) | refine stepsXB_both (fun hh => ?_) (fun hh => ?_)) <;> (try simp (maxSteps := 1000000) (dsimp := false) (disch := omega) only [go_sem, simprocAttr, decide_eq_true_eq, decide_eq_false_iff_not, Bool.not_eq_true, Bool.not_eq_false, Bool.not_eq_true', Bool.not_eq_false', Int.not_lt, Int.not_le, bne_iff_ne, bne_eq_false_iff_eq, beq_iff_eq, beq_eq_false_iff_ne, ne_eq, Int.ofNat_inj, Int.natCast_inj] at hh) <;> (try (exfalso; omega))) | (refine wpB_cond (by simp (maxSteps := 1000000) (dsimp := false) (disch := omega) only [go_sem, simprocAttr, *]; exact rfl) (fun hh => ?_) (fun hh => ?_) <;> (try simp (maxSteps := 1000000) (dsimp := false) (disch := omega) only [go_sem, simprocAttr, decide_eq_true_eq, decide_eq_false_iff_not, Bool.not_eq_true, Bool.not_eq_false, Bool.not_eq_true', Bool.not_eq_false', Int.not_lt, Int.not_le, bne_iff_ne, bne_eq_false_iff_eq, beq_iff_eq, beq_eq_false_iff_ne, ne_eq, Int.ofNat_inj, Int.natCast_inj] at hh) <;> (try (exfalso; omega))))
  refine evB_plain bo8 rfl rfl s2 hcu ?_
  cases hr : rightD d with
  | false => repeat' (first | refine wpB_seq ?_ | refine wpB_regionL rfl ?_ | refine wpB_block ?_ | refine wpB_skip ?_ | refine wpB_exit ?_ | refine wpB_ret ?_ | simp (maxSteps := 1000000) (dsimp := false) (disch := omega) only [go_sem, simprocAttr, *, pcsD] | ((first | refine stepsB_both (fun hh => ?_) (fun hh => ?_) | refine stepsXB_both (fun hh => ?_) (fun hh => ?_)) <;> (try simp (maxSteps := 1000000) (dsimp := false) (disch := omega) only [go_sem, simprocAttr, decide_eq_true_eq, decide_eq_false_iff_not, Bool.not_eq_true, Bool.not_eq_false, Bool.not_eq_true', Bool.not_eq_false', Int.not_lt, Int.not_le, bne_iff_ne, bne_eq_false_iff_eq, beq_iff_eq, beq_eq_false_iff_ne, ne_eq, Int.ofNat_inj, Int.natCast_inj] at hh) <;> (try (exfalso; omega))) | (refine wpB_cond (by simp (maxSteps := 1000000) (dsimp := false) (disch := omega) only [go_sem, simprocAttr, *, pcsD]; exact rfl) (fun hh => ?_) (fun hh => ?_) <;> (try simp (maxSteps := 1000000) (dsimp := false) (disch := omega) only [go_sem, simprocAttr, decide_eq_true_eq, decide_eq_false_iff_not, Bool.not_eq_true, Bool.not_eq_false, Bool.not_eq_true', Bool.not_eq_false', Int.not_lt, Int.not_le, bne_iff_ne, bne_eq_false_iff_eq, beq_iff_eq, beq_eq_false_iff_ne, ne_eq, Int.ofNat_inj, Int.natCast_inj] at hh) <;> (try (exfalso; omega))))
  | true =>
    rw [if_pos rfl]
    have hdr := fun i h => cut_drop (d := d) (w := w) w.length 0 i h (by omega) (by omega) (by omega)
    have hbd := cut_bd (d := d) (w := w) w.length 0 (by omega) (by omega)
    generalize hP : cutL d w w.length 0 = P at hdr hbd
    clear hcu
    by_cases hne : P.length = 0
    · have : P = [] := List.length_eq_zero_iff.1 hne
      subst this
      repeat' (first | refine wpB_seq ?_ | refine wpB_regionL rfl ?_ | refine wpB_block ?_ | refine wpB_skip ?_ | refine wpB_exit ?_ | refine wpB_ret ?_ | simp (maxSteps := 1000000) (dsimp := false) (disch := omega) only [go_sem, simprocAttr, *, pcsD] | ((first | refine stepsB_both (fun hh => ?_) (fun hh => ?_) | refine stepsXB_both (fun hh => ?_) (fun hh => ?_)) <;> (try simp (maxSteps := 1000000) (dsimp := false) (disch := omega) only [go_sem, simprocAttr, decide_eq_true_eq, decide_eq_false_iff_not, Bool.not_eq_true, Bool.not_eq_false, Bool.not_eq_true', Bool.not_eq_false', Int.not_lt, Int.not_le, bne_iff_ne, bne_eq_false_iff_eq, beq_iff_eq, beq_eq_false_iff_ne, ne_eq, Int.ofNat_inj, Int.natCast_inj] at hh) <;> (try (exfalso; omega))) | (refine wpB_cond (by simp (maxSteps := 1000000) (dsimp := false) (disch := omega) only [go_sem, simprocAttr, *, pcsD]; exact rfl) (fun hh => ?_) (fun hh => ?_) <;> (try simp (maxSteps := 1000000) (dsimp := false) (disch := omega) only [go_sem, simprocAttr, decide_eq_true_eq, decide_eq_false_iff_not, Bool.not_eq_true, Bool.not_eq_false, Bool.not_eq_true', Bool.not_eq_false', Int.not_lt, Int.not_le, bne_iff_ne, bne_eq_false_iff_eq, beq_iff_eq, beq_eq_false_iff_ne, ne_eq, Int.ofNat_inj, Int.natCast_inj] at hh) <;> (try (exfalso; omega))))
    have hPl : P.length ≤ 100 := by rw [← hP]; have := cut_len (d := d) (w := w) w.length 0; omega
    have hPl0 : 1 ≤ P.length := by omega
    clear hne hP
    obtain ⟨i, hi⟩ : ∃ i : Nat, k.tmod (P.length : Int) = i := ⟨(k.tmod P.length).toNat, by
      have := Int.tmod_nonneg (P.length : Int) hk0
      omega⟩
    have hil : i < P.length := by
      have := Int.tmod_lt_of_pos k (show (0 : Int) < P.length by omega)
      omega
    have hci := pc_get hil
    have hdi := hdr i hil
    have hbi := hbd _ (List.getElem_mem hil)
    have hTb : ∀ p ∈ P.drop (i + 1), 0 ≤ p.f ∧ p.f < p.t ∧ p.t ≤ w.length := fun p hp => hbd p (List.mem_of_mem_drop hp)
    clear hdr hbd
    generalize P[i] = p at hci hdi hbi
    obtain ⟨pf, pt, pr⟩ := p
    simp only at hci hdi hbi
    obtain ⟨at_, rfl⟩ : ∃ a : Nat, pt = a := ⟨pt.toNat, by omega⟩
    have hat : at_ ≤ w.length := by omega
    have hcq := scut_ok d (w.drop at_) ht (by omega) hs2 (by rw [List.length_drop]; omega)
    rw [hr, if_pos rfl, cut_shift hr w at_ hat _ 0 (by omega) (by omega), Int.zero_add, cut_fuel _ w.length at_ (by omega) (by omega) (by rw [List.length_drop]; omega) (by omega), ← hdi] at hcq
    have hT : ∀ j, (P.drop (i + 1))[j]? = P[i + 1 + j]? := fun j => by rw [List.getElem?_drop]
    have hTl : (P.drop (i + 1)).length = P.length - (i + 1) := List.length_drop
    generalize P.drop (i + 1) = T at hcq hT hTl hTb
    have hq1 : T.length ≤ P.length - (i + 1) := by omega
    have hq2 : P.length - (i + 1) ≤ T.length := by omega
    clear hTl hdi
    have hst := stripDw d (w.drop at_)
    have hsl : List.drop at_ (List.take w.length (List.map (D.int .i64) w)) = (w.drop at_).map (.int .i64) := by rw [← List.map_take, List.take_length, List.map_drop]
    have hhd := headInts w
    rw [show isD (w.drop at_) = .sl false ((w.drop at_).map (.int .i64)) from rfl] at hcq hst
    have hnz : ¬ ((P.length : Int) = 0) := by omega
    have epc : pcsD P = .sl false (P.map pcD) := rfl
    have eqc : pcsD (T.map (shPc at_)) = .sl false ((T.map (shPc at_)).map pcD) := rfl
    repeat' (first | refine wpB_seq ?_ | refine wpB_regionL rfl ?_ | refine wpB_block ?_ | refine wpB_skip ?_ | refine wpB_exit ?_ | refine wpB_ret ?_ | simp (maxSteps := 1000000) (dsimp := false) (disch := omega) only [go_sem, simprocAttr, *] | ((first | refine stepsB_both (fun hh => ?_) (fun hh => ?_) | refine stepsXB_both (fun hh => ?_) (fun hh => ?_)) <;> (try simp (maxSteps := 1000000) (dsimp := false) (disch := omega) only [go_sem, simprocAttr, decide_eq_true_eq, decide_eq_false_iff_not, Bool.not_eq_true, Bool.not_eq_false, Bool.not_eq_true', Bool.not_eq_false', Int.not_lt, Int.not_le, bne_iff_ne, bne_eq_false_iff_eq, beq_iff_eq, beq_eq_false_iff_ne, ne_eq, Int.ofNat_inj, Int.natCast_inj] at hh) <;> (try (exfalso; omega))) | (refine wpB_cond (by simp (maxSteps := 1000000) (dsimp := false) (disch := omega) only [go_sem, simprocAttr, *]; exact rfl) (fun hh => ?_) (fun hh => ?_) <;> (try simp (maxSteps := 1000000) (dsimp := false) (disch := omega) only [go_sem, simprocAttr, decide_eq_true_eq, decide_eq_false_iff_not, Bool.not_eq_true, Bool.not_eq_false, Bool.not_eq_true', Bool.not_eq_false', Int.not_lt, Int.not_le, bne_iff_ne, bne_eq_false_iff_eq, beq_iff_eq, beq_eq_false_iff_ne, ne_eq, Int.ofNat_inj, Int.natCast_inj] at hh) <;> (try (exfalso; omega))))
    refine wpB_regionXL (prs := []) (by kernel_rfl) rfl (by kernel_rfl) ?_; simp (maxSteps := 1000000) (dsimp := false) (disch := omega) only [go_sem, simprocAttr, *]
    refine ⟨fun _ => rfl, evB_plain bo8 rfl rfl hst hcq ?_⟩
    repeat' (first | refine wpB_seq ?_ | refine wpB_regionL rfl ?_ | refine wpB_block ?_ | refine wpB_skip ?_ | refine wpB_exit ?_ | refine wpB_ret ?_ | simp (maxSteps := 1000000) (dsimp := false) (disch := omega) only [go_sem, simprocAttr, *] | ((first | refine stepsB_both (fun hh => ?_) (fun hh => ?_) | refine stepsXB_both (fun hh => ?_) (fun hh => ?_)) <;> (try simp (maxSteps := 1000000) (dsimp := false) (disch := omega) only [go_sem, simprocAttr, decide_eq_true_eq, decide_eq_false_iff_not, Bool.not_eq_true, Bool.not_eq_false, Bool.not_eq_true', Bool.not_eq_false', Int.not_lt, Int.not_le, bne_iff_ne, bne_eq_false_iff_eq, beq_iff_eq, beq_eq_false_iff_ne, ne_eq, Int.ofNat_inj, Int.natCast_inj] at hh) <;> (try (exfalso; omega))) | (refine wpB_cond (by simp (maxSteps := 1000000) (dsimp := false) (disch := omega) only [go_sem, simprocAttr, *]; exact rfl) (fun hh => ?_) (fun hh => ?_) <;> (try simp (maxSteps := 1000000) (dsimp := false) (disch := omega) only [go_sem, simprocAttr, decide_eq_true_eq, decide_eq_false_iff_not, Bool.not_eq_true, Bool.not_eq_false, Bool.not_eq_true', Bool.not_eq_false', Int.not_lt, Int.not_le, bne_iff_ne, bne_eq_false_iff_eq, beq_iff_eq, beq_eq_false_iff_ne, ne_eq, Int.ofNat_inj, Int.natCast_inj] at hh) <;> (try (exfalso; omega))))
    clear hcq hst hsl epc eqc hci
    refine wpB_loop (fun e H => ∃ (j : Nat), j ≤ T.length ∧ e 7 = .sl false (P.map pcD) ∧ e 8 = .int .i64 i ∧ e 9 = .int .i64 at_ ∧ e 10 = .sl false ((T.map (shPc at_)).map pcD) ∧ e 11 = .int .i64 j) (fun e H => T.length - natOf (e 11)) ?_ ?_
    · exact ⟨0, by omega, by simp (maxSteps := 1000000) (dsimp := false) (disch := omega) only [go_sem, simprocAttr, *, pcsD], gs, gs, by simp (maxSteps := 1000000) (dsimp := false) (disch := omega) only [go_sem, simprocAttr, *, pcsD], gs⟩
    rintro e H ⟨j, hj, e7, e8, e9, e10, e11⟩ R hR
    have hln : ((T.map (shPc at_)).map pcD).length = T.length := by simp
    by_cases hb : j < T.length
    case neg => repeat' (first | refine wpB_seq ?_ | refine wpB_regionL rfl ?_ | refine wpB_block ?_ | refine wpB_skip ?_ | refine wpB_exit ?_ | refine wpB_ret ?_ | simp (maxSteps := 1000000) (dsimp := false) (disch := omega) only [go_sem, simprocAttr, *] | ((first | refine stepsB_both (fun hh => ?_) (fun hh => ?_) | refine stepsXB_both (fun hh => ?_) (fun hh => ?_)) <;> (try simp (maxSteps := 1000000) (dsimp := false) (disch := omega) only [go_sem, simprocAttr, decide_eq_true_eq, decide_eq_false_iff_not, Bool.not_eq_true, Bool.not_eq_false, Bool.not_eq_true', Bool.not_eq_false', Int.not_lt, Int.not_le, bne_iff_ne, bne_eq_false_iff_eq, beq_iff_eq, beq_eq_false_iff_ne, ne_eq, Int.ofNat_inj, Int.natCast_inj] at hh) <;> (try (exfalso; omega))) | (refine wpB_cond (by simp (maxSteps := 1000000) (dsimp := false) (disch := omega) only [go_sem, simprocAttr, *]; exact rfl) (fun hh => ?_) (fun hh => ?_) <;> (try simp (maxSteps := 1000000) (dsimp := false) (disch := omega) only [go_sem, simprocAttr, decide_eq_true_eq, decide_eq_false_iff_not, Bool.not_eq_true, Bool.not_eq_false, Bool.not_eq_true', Bool.not_eq_false', Int.not_lt, Int.not_le, bne_iff_ne, bne_eq_false_iff_eq, beq_iff_eq, beq_eq_false_iff_ne, ne_eq, Int.ofNat_inj, Int.natCast_inj] at hh) <;> (try (exfalso; omega))))
    have hbt := hTb _ (List.getElem_mem hb)
    have hq : ((T.map (shPc at_)).map pcD)[j]? = some (.agg [.int .i64 (T[j].f - at_), .int .i64 (T[j].t - at_), .int .i64 T[j].r]) := by simp [hb, pcD, shPc]
    have hp : (P.map pcD)[i + 1 + j]? = some (.agg [.int .i64 T[j].f, .int .i64 T[j].t, .int .i64 T[j].r]) := by
      have h1 := hT j
      rw [List.getElem?_eq_getElem hb] at h1
      rw [List.getElem?_map, ← h1]
      rfl
    generalize T[j] = t at hbt hq hp
    obtain ⟨tf, tt, tr⟩ := t
    simp only at hbt hq hp
    have hpi : (P.map pcD)[((i : Int) + 1 + j).toNat]? = some (.agg [.int .i64 tf, .int .i64 tt, .int .i64 tr]) := by rw [show ((i : Int) + 1 + j).toNat = i + 1 + j by omega]; exact hp
    have z1 : tf - (at_ : Int) + at_ = tf := by omega
    have z2 : tt - (at_ : Int) + at_ = tt := by omega
    have b1 : (tf != tf) = false := by simp
    have b2 : (tt != tt) = false := by simp
    have b3 : (tr != tr) = false := by simp
    repeat' (first | refine wpB_seq ?_ | refine wpB_regionL rfl ?_ | refine wpB_block ?_ | refine wpB_skip ?_ | refine wpB_exit ?_ | refine wpB_ret ?_ | simp (maxSteps := 1000000) (dsimp := false) (disch := omega) only [go_sem, simprocAttr, *] | ((first | refine stepsB_both (fun hh => ?_) (fun hh => ?_) | refine stepsXB_both (fun hh => ?_) (fun hh => ?_)) <;> (try simp (maxSteps := 1000000) (dsimp := false) (disch := omega) only [go_sem, simprocAttr, decide_eq_true_eq, decide_eq_false_iff_not, Bool.not_eq_true, Bool.not_eq_false, Bool.not_eq_true', Bool.not_eq_false', Int.not_lt, Int.not_le, bne_iff_ne, bne_eq_false_iff_eq, beq_iff_eq, beq_eq_false_iff_ne, ne_eq, Int.ofNat_inj, Int.natCast_inj] at hh) <;> (try (exfalso; omega))) | (refine wpB_cond (by simp (maxSteps := 1000000) (dsimp := false) (disch := omega) only [go_sem, simprocAttr, *]; exact rfl) (fun hh => ?_) (fun hh => ?_) <;> (try simp (maxSteps := 1000000) (dsimp := false) (disch := omega) only [go_sem, simprocAttr, decide_eq_true_eq, decide_eq_false_iff_not, Bool.not_eq_true, Bool.not_eq_false, Bool.not_eq_true', Bool.not_eq_false', Int.not_lt, Int.not_le, bne_iff_ne, bne_eq_false_iff_eq, beq_iff_eq, beq_eq_false_iff_ne, ne_eq, Int.ofNat_inj, Int.natCast_inj] at hh) <;> (try (exfalso; omega))))
    refine wpB_regionXL (prs := []) (by kernel_rfl) rfl (by kernel_rfl) ?_; simp (maxSteps := 1000000) (dsimp := false) (disch := omega) only [go_sem, simprocAttr, *]
    repeat' (first | refine wpB_seq ?_ | refine wpB_regionL rfl ?_ | refine wpB_block ?_ | refine wpB_skip ?_ | refine wpB_exit ?_ | refine wpB_ret ?_ | simp (maxSteps := 1000000) (dsimp := false) (disch := omega) only [go_sem, simprocAttr, *] | ((first | refine stepsB_both (fun hh => ?_) (fun hh => ?_) | refine stepsXB_both (fun hh => ?_) (fun hh => ?_)) <;> (try simp (maxSteps := 1000000) (dsimp := false) (disch := omega) only [go_sem, simprocAttr, decide_eq_true_eq, decide_eq_false_iff_not, Bool.not_eq_true, Bool.not_eq_false, Bool.not_eq_true', Bool.not_eq_false', Int.not_lt, Int.not_le, bne_iff_ne, bne_eq_false_iff_eq, beq_iff_eq, beq_eq_false_iff_ne, ne_eq, Int.ofNat_inj, Int.natCast_inj] at hh) <;> (try (exfalso; omega))) | (refine wpB_cond (by simp (maxSteps := 1000000) (dsimp := false) (disch := omega) only [go_sem, simprocAttr, *]; exact rfl) (fun hh => ?_) (fun hh => ?_) <;> (try simp (maxSteps := 1000000) (dsimp := false) (disch := omega) only [go_sem, simprocAttr, decide_eq_true_eq, decide_eq_false_iff_not, Bool.not_eq_true, Bool.not_eq_false, Bool.not_eq_true', Bool.not_eq_false', Int.not_lt, Int.not_le, bne_iff_ne, bne_eq_false_iff_eq, beq_iff_eq, beq_eq_false_iff_ne, ne_eq, Int.ofNat_inj, Int.natCast_inj] at hh) <;> (try (exfalso; omega))))
    refine hR _ _ ⟨j + 1, by omega, gs, gs, gs, gs, gs⟩ ?_
    simp (maxSteps := 1000000) (dsimp := false) (disch := omega) only [go_sem, simprocAttr, *, natOf_int]
end Go.Proofs.W
end
/- The least rule of some states, read of a maker of machines. -/
section
set_option maxHeartbeats 4000000
set_option linter.unusedVariables false
set_option linter.unusedSimpArgs false
namespace Go.Proofs.W
open Go Vm Go.Proofs.Zs09

/-- nothing is taken as it is -/
def A1 : Ann := { mode := fun _ => .pure, prim := fun _ => none }
theorem prim1 [Base] : PrimOk Tryz.prog A1 := ⟨fun f k h => (by cases h), fun f g h => (by cases h), fun f p h => (by cases h)⟩
theorem ruleL_cons {rs xs : List D} {x : D} {out r : Int} (h : ruleL rs (x :: xs) out = some r) : ∃ s q : Int, x = .int .i64 s ∧ 0 ≤ s ∧ rs[s.toNat]? = some (.int .i64 q) ∧ ruleL rs xs (if q ≥ 0 ∧ (out < 0 ∨ q < out) then q else out) = some r := by
  unfold ruleL at h
  split at h
  · rename_i e1; cases e1
  · rename_i e1
    cases e1
    split at h
    · split at h
      · rename_i q hq
        exact ⟨_, q, rfl, by assumption, hq, h⟩
      · cases h
    · cases h
  · cases h
theorem rule_ok (r : Nat) (f g : Bool) (xs rs : List D) (c0 c1 c2 c4 c5 c6 c7 : D) (H : Heap) (hg : hget H r = .arr [.agg [c0, c1, c2, .sl g rs, c4, c5, c6, c7]]) (x : Int) (hx : ruleL rs xs (-1) = some x) (hl : xs.length ≤ 1000000) :
    EvF Tryz.prog A1 106 [.ptr r 0 0, .sl f xs] H (fun d H' => d = .int .i64 x ∧ H' = H) (fun _ _ => False) := by
  refine evF_inB (n := 37) (rs := [.tmp 4]) Tryz.func106 rfl rfl rfl rfl rfl rfl ?_
  replace hx : Hid (ruleL rs (xs.drop 0) (-1) = some x) := hx
  repeat' (first | refine wpB_seq ?_ | refine wpB_regionL rfl ?_ | refine wpB_block ?_ | refine wpB_skip ?_ | refine wpB_exit ?_ | refine wpB_ret ?_ | simp (maxSteps := 1000000) (dsimp := false) (disch := omega) only [go_sem, simprocAttr, *] | ((first | refine stepsB_both (fun hh => ?_) (fun hh => ?_) | refine stepsXB_both (fun hh => ?_) (fun hh => ?_)) <;> (try simp (maxSteps := 1000000) (dsimp := false) (disch := omega) only [go_sem, simprocAttr, decide_eq_true_eq, decide_eq_false_iff_not, Bool.not_eq_true, Bool.not_eq_false, Bool.not_eq_true', Bool.not_eq_false', Int.not_lt, Int.not_le, bne_iff_ne, bne_eq_false_iff_eq, beq_iff_eq, beq_eq_false_iff_ne, ne_eq, Int.ofNat_inj, Int.natCast_inj] at hh) <;> (try (exfalso; omega))) | (refine wpB_cond (by simp (maxSteps := 1000000) (dsimp := false) (disch := omega) only [go_sem, simprocAttr, *]; exact rfl) (fun hh => ?_) (fun hh => ?_) <;> (try simp (maxSteps := 1000000) (dsimp := false) (disch := omega) only [go_sem, simprocAttr, decide_eq_true_eq, decide_eq_false_iff_not, Bool.not_eq_true, Bool.not_eq_false, Bool.not_eq_true', Bool.not_eq_false', Int.not_lt, Int.not_le, bne_iff_ne, bne_eq_false_iff_eq, beq_iff_eq, beq_eq_false_iff_ne, ne_eq, Int.ofNat_inj, Int.natCast_inj] at hh) <;> (try (exfalso; omega))))
  refine wpB_loop (fun e Hx => ∃ (j : Nat) (o : Int), j ≤ xs.length ∧ Hx = H ∧ e 0 = .ptr r 0 0 ∧ e 5 = .int .i64 o ∧ e 9 = .sl f xs ∧ e 10 = .int .i64 xs.length ∧ e 11 = .int .i64 j ∧ ruleL rs (xs.drop j) o = some x) (fun e H => xs.length - natOf (e 11)) ?_ ?_
  · exact ⟨0, -1, by omega, rfl, gs, gs, gs, gs, gs, hx⟩
  clear hx
  rintro e Hx ⟨j, o, hj, rfl, e0, e5, e9, e10, e11, hx⟩ R hR
  by_cases hb : j < xs.length
  case neg =>
    rw [List.drop_eq_nil_of_le (by omega)] at hx
    have : o = x := by simpa [ruleL] using hx
    subst this
    clear hx
    repeat' (first | refine wpB_seq ?_ | refine wpB_regionL rfl ?_ | refine wpB_block ?_ | refine wpB_skip ?_ | refine wpB_exit ?_ | refine wpB_ret ?_ | simp (maxSteps := 1000000) (dsimp := false) (disch := omega) only [go_sem, simprocAttr, *] | ((first | refine stepsB_both (fun hh => ?_) (fun hh => ?_) | refine stepsXB_both (fun hh => ?_) (fun hh => ?_)) <;> (try simp (maxSteps := 1000000) (dsimp := false) (disch := omega) only [go_sem, simprocAttr, decide_eq_true_eq, decide_eq_false_iff_not, Bool.not_eq_true, Bool.not_eq_false, Bool.not_eq_true', Bool.not_eq_false', Int.not_lt, Int.not_le, bne_iff_ne, bne_eq_false_iff_eq, beq_iff_eq, beq_eq_false_iff_ne, ne_eq, Int.ofNat_inj, Int.natCast_inj] at hh) <;> (try (exfalso; omega))) | (refine wpB_cond (by simp (maxSteps := 1000000) (dsimp := false) (disch := omega) only [go_sem, simprocAttr, *]; exact rfl) (fun hh => ?_) (fun hh => ?_) <;> (try simp (maxSteps := 1000000) (dsimp := false) (disch := omega) only [go_sem, simprocAttr, decide_eq_true_eq, decide_eq_false_iff_not, Bool.not_eq_true, Bool.not_eq_false, Bool.not_eq_true', Bool.not_eq_false', Int.not_lt, Int.not_le, bne_iff_ne, bne_eq_false_iff_eq, beq_iff_eq, beq_eq_false_iff_ne, ne_eq, Int.ofNat_inj, Int.natCast_inj] at hh) <;> (try (exfalso; omega))))
  have hd : xs.drop j = xs[j] :: xs.drop (j + 1) := List.drop_eq_getElem_cons hb
  rw [hd] at hx
  obtain ⟨s, q, hs, hs0, hq, hx⟩ := ruleL_cons hx
  have hcell : xs[j]? = some (.int .i64 s) := by rw [List.getElem?_eq_getElem hb, hs]
  have hsl : s < rs.length := by
    have := (List.getElem?_eq_some_iff.1 hq).1
    omega
  clear hd hs
  replace hx : Hid (ruleL rs (xs.drop (j + 1)) (if q ≥ 0 ∧ (o < 0 ∨ q < o) then q else o) = some x) := hx
  repeat' (first | refine wpB_seq ?_ | refine wpB_regionL rfl ?_ | refine wpB_block ?_ | refine wpB_skip ?_ | refine wpB_exit ?_ | refine wpB_ret ?_ | simp (maxSteps := 1000000) (dsimp := false) (disch := omega) only [go_sem, simprocAttr, *] | ((first | refine stepsB_both (fun hh => ?_) (fun hh => ?_) | refine stepsXB_both (fun hh => ?_) (fun hh => ?_)) <;> (try simp (maxSteps := 1000000) (dsimp := false) (disch := omega) only [go_sem, simprocAttr, decide_eq_true_eq, decide_eq_false_iff_not, Bool.not_eq_true, Bool.not_eq_false, Bool.not_eq_true', Bool.not_eq_false', Int.not_lt, Int.not_le, bne_iff_ne, bne_eq_false_iff_eq, beq_iff_eq, beq_eq_false_iff_ne, ne_eq, Int.ofNat_inj, Int.natCast_inj] at hh) <;> (try (exfalso; omega))) | (refine wpB_cond (by simp (maxSteps := 1000000) (dsimp := false) (disch := omega) only [go_sem, simprocAttr, *]; exact rfl) (fun hh => ?_) (fun hh => ?_) <;> (try simp (maxSteps := 1000000) (dsimp := false) (disch := omega) only [go_sem, simprocAttr, decide_eq_true_eq, decide_eq_false_iff_not, Bool.not_eq_true, Bool.not_eq_false, Bool.not_eq_true', Bool.not_eq_false', Int.not_lt, Int.not_le, bne_iff_ne, bne_eq_false_iff_eq, beq_iff_eq, beq_eq_false_iff_ne, ne_eq, Int.ofNat_inj, Int.natCast_inj] at hh) <;> (try (exfalso; omega))))
  all_goals first
    | (refine hR _ _ ⟨j + 1, q, by omega, rfl, gs, gs, gs, gs, gs, ?_⟩ ?_
       · have h := hx; unfold Hid at h
         rwa [if_pos (by omega)] at h
       · simp (maxSteps := 1000000) (dsimp := false) (disch := omega) only [go_sem, simprocAttr, *, natOf_int])
    | (refine hR _ _ ⟨j + 1, o, by omega, rfl, gs, gs, gs, gs, gs, ?_⟩ ?_
       · have h := hx; unfold Hid at h
         rwa [if_neg (by omega)] at h
       · simp (maxSteps := 1000000) (dsimp := false) (disch := omega) only [go_sem, simprocAttr, *, natOf_int])
theorem ruleG_inv {args : List D} {obs : List Ob} {d : D} (h : ruleG args obs = some d) : ∃ r f g xs rs c0 c1 c2 c4 c5 c6 c7 x, args = [.ptr r 0 0, .sl f xs] ∧ obs = [.arr [.agg [c0, c1, c2, .sl g rs, c4, c5, c6, c7]]] ∧ ruleL rs xs (-1) = some x ∧ d = .int .i64 x ∧ xs.length ≤ 1000000 := by
  unfold ruleG at h
  split at h
  · split at h
    case isFalse => cases h
    rename_i hl
    cases hx : ruleL _ _ (-1) with
    | none => rw [hx] at h; cases h
    | some x =>
      rw [hx] at h
      cases h
      exact ⟨_, _, _, _, _, _, _, _, _, _, _, _, x, rfl, rfl, hx, rfl, hl⟩
  · cases h

theorem rule_calls [Base] {args : List D} {H : Heap} {d : D} (h : ruleG args ((args.flatMap objsD).map (hget H)) = some d) {ρ : Rho} {im : Im} {w : World} {vs : List Value} (hR : Rel ρ im H w) (hvs : RepA ρ H.length im vs args) : Calls Tryz.prog 106 ⟨vs⟩ w (OutR ρ im H w (.ok d H)) := by
  obtain ⟨r, f, g, xs, rs, c0, c1, c2, c4, c5, c6, c7, x, rfl, hob, hx, rfl, hl⟩ := ruleG_inv h
  have hg : hget H r = .arr [.agg [c0, c1, c2, .sl g rs, c4, c5, c6, c7]] := by simpa [objsD] using hob
  exact calls_of_ev mixed prim1 bo106 (rule_ok r f g xs rs c0 c1 c2 c4 c5 c6 c7 H hg x hx hl) hR hvs
end Go.Proofs.W
end
